/- The walk of MeanBetween. -/
import Derived.Test.YtfhcgnkjncfeiaaMk
import Derived.Test.YtfhcgnkjncfeiaaJ
namespace Go.Proofs.Ytfhcgnkjncfeiaa
open Go.ChangeShapes Go.WideShapes Go.RowKit Fl

/-- the slots' facts -/
def rotL (gm k n cap : Nat) : List (Nat × Nat × Value) :=
  [(1, 66, .slice (some ⟨gm, 0, none⟩) n cap), (2, 67, .int .i64 k), (3, 68, .slice (some ⟨gm, k, none⟩) (n - k) (cap - k)), (5, 70, .slice (some ⟨gm, 0, none⟩) n cap), (6, 71, .int .i64 k), (7, 72, .slice (some ⟨gm, 0, none⟩) k cap)]
def rotO : List (Nat × Nat) := [(4, 0), (8, 4), (9, 8)]
/-- the row that is made -/
structure RotW (w0 : World) (f : Nat → Int) (k n : Nat) (d0 d4 d8 d9 : Bool) (t65 t69 t73 t13 : Value) (w : World) : Prop where
  hb : Below w0.heap.size w0 w
  r0 : d0 = true → d4 = false → w.ownsRow w0.heap.size 3 1 t65 0 []
  r4 : d4 = true → d8 = false → w.ownsRow w0.heap.size 3 1 t69 (n - k) (rowK (fun j => f (k + j)) (n - k))
  r8 : d8 = true → w.ownsRow w0.heap.size 3 1 t73 n (rowK (turned f k n) n)
  r9 : d9 = true → t13 = t73
/-- what holds whichever operations have run -/
def Rot (w0 : World) (f : Nat → Int) (gm k n cap : Nat) (T0 : Nat → Value) (d : Nat → Bool) (T : Nat → Value) (w : World) : Prop :=
  Facts (rotL gm k n cap) d T ∧ Ord rotO d ∧ (∀ j, j < 13 ∨ (13 < j ∧ j < 65) ∨ 73 < j → T j = T0 j) ∧ RotW w0 f k n (d 0) (d 4) (d 8) (d 9) (T 65) (T 69) (T 73) (T 13) w
theorem Rot.plain {w0 : World} {f : Nat → Int} {gm k n cap : Nat} {T0 : Nat → Value} {d : Nat → Bool} {T : Nat → Value} {w : World} (h : Rot w0 f gm k n cap T0 d T w) (i s : Nat) (v : Value) (hi : i ≠ 0 ∧ i ≠ 4 ∧ i ≠ 8 ∧ i ≠ 9) (hs : s = 66 ∨ s = 67 ∨ s = 68 ∨ s = 70 ∨ s = 71 ∨ s = 72)
    (hl : ∀ x ∈ rotL gm k n cap, if x.1 = i then x.2.1 = s ∧ x.2.2 = v else x.2.1 ≠ s) : Rot w0 f gm k n cap T0 (also d i) (upd T s v) w := by
  obtain ⟨h1, h2, h3, h4⟩ := h
  refine ⟨h1.step i s v hl, h2.step i (by intro x hx; simp [rotO] at hx; rcases hx with rfl | rfl | rfl <;> simp <;> omega), fun j hj => by unfold upd; rw [if_neg (by omega)]; exact h3 j hj, ?_⟩
  have e : ∀ j, j ≠ i → also d i j = d j := fun j hj => by unfold also; rw [if_neg hj]
  have e2 : ∀ j, j ≠ s → upd T s v j = T j := fun j hj => by unfold upd; rw [if_neg hj]
  rw [e 0 (by omega), e 4 (by omega), e 8 (by omega), e 9 (by omega), e2 65 (by omega), e2 69 (by omega), e2 73 (by omega), e2 13 (by omega)]
  exact h4
theorem news_at {w0 w : World} {gm n o m : Nat} {f : Nat → Int} (hI : IntsAt w0 gm 0 n f) (hb : Below w0.heap.size w0 w) (hm : o + m ≤ n) : ∀ j u, (rowK (fun j => f (o + j)) m)[j]? = some u → w.cell? ((⟨gm, o, none⟩ : Addr).add j) = some u := by
  intro j u hu
  have hj : j < m := by
    rcases Nat.lt_or_ge j m with h | h
    · exact h
    · rw [List.getElem?_eq_none (by rw [rowK_len]; exact h)] at hu; cases hu
  rw [rowK_get _ _ _ hj] at hu
  rw [← Option.some.inj hu, addr_add, cell?_heap]
  have := cell_kept hb (hI (o + j) (by omega))
  rw [Nat.zero_add] at this
  exact this
theorem rowK_one (f : Nat → Int) (k : Nat) : ∀ u ∈ rowK f k, u.oneCell' = true := by
  intro u hu
  unfold rowK at hu
  obtain ⟨_, _, rfl⟩ := List.mem_map.1 hu
  rfl

set_option maxRecDepth 100000 in
set_option maxHeartbeats 12800000 in
theorem between_some (bb off n cap : Nat) (b : Int) (f0 : Nat → Int) (w : World) (hI : IntsAt w bb off n f0) (hn : 1 ≤ n ∧ n ≤ 200) :
    Calls Try.prog 3 #[.slice (some ⟨bb, off, none⟩) n cap, .int .i64 b] w fun e w' => e = .returned (.bool true) ∧ Below w.heap.size w w' := by
  have d0 : decide ((n : Int) < 1) = false := decide_eq_false (by omega)
  have d1 : decide (200 < (n : Int)) = false := decide_eq_false (by omega)
  obtain ⟨i0, hi0, hz0, hz1, hz2⟩ := info_parts info3
  obtain ⟨f, hf⟩ : ∃ f : Nat → Int, f = fun j => (IntKind.u64.wrap (f0 j)).tmod 1000001 := ⟨_, rfl⟩
  have hff : ∀ j, (IntKind.u64.wrap (f0 j)).tmod 1000001 = f j := fun j => by rw [hf]
  have hfb : ∀ j, 0 ≤ f j ∧ f j ≤ 1000000 := fun j => by
    rw [← hff]
    have h1 : 0 ≤ IntKind.u64.wrap (f0 j) := by rw [IntKind.wrap_u64]; omega
    have h2 := Int.tmod_nonneg 1000001 h1
    have h3 := Int.tmod_lt_of_pos (IntKind.u64.wrap (f0 j)) (by decide : (0 : Int) < 1000001)
    omega
  have hb0 : 0 ≤ IntKind.u64.wrap b := by rw [IntKind.wrap_u64]; omega
  obtain ⟨kk, hkk⟩ := Int.eq_ofNat_of_zero_le (Int.tmod_nonneg (n : Int) hb0)
  have hklt := Int.tmod_lt_of_pos (IntKind.u64.wrap b) (by omega : (0 : Int) < (n : Int))
  rw [hkk] at hklt
  have hkn : kk < n := by omega
  have HI := Lib.hid hI
  have HN := Lib.hid hn
  have HF := Lib.hid hff
  have HFb := Lib.hid hfb
  have HK := Lib.hid hkk
  have HKN := Lib.hid hkn
  clear hI hn hf hff hfb hb0 hkk hklt hkn
  go_enter Try.func3, Try.ntmps3
  go_wp2_with fail
  go_loopw [5, 27] (fun s i wr => ∃ k : Nat, k ≤ n ∧ i = .int .i64 k ∧ wr.ownsRow w.heap.size 3 1 s k (rowK f k) ∧ Below w.heap.size w wr) (fun _ i _ => n - (intOf i).toNat)
  case atStart => exact ⟨0, by omega, rfl, World.ownsRow_nil _ _ _ _, Below.refl _ _⟩
  case round =>
    obtain ⟨k, hk, rfl, o1, ob⟩ := hrel
    have H1 := Lib.hid o1
    have HB := Lib.hid ob
    clear o1 ob
    by_cases hlt : k < n
    · have hltz : (k : Int) < (n : Int) := by omega
      have cJ := cell_kept HB.out (HI.out k hlt)
      have hx := HF.out k
      have hb := HFb.out k
      have wk : IntKind.i64.wrap ((k : Int) + 1) = (k : Int) + 1 := by have := HN.out; rw [IntKind.wrap_i64]; omega
      have wy : wrap64 (f k) = f k := by unfold wrap64; omega
      generalize f0 k = x at cJ hx
      have HLT := Lib.hid hlt
      clear hlt hk hb
      go_wp2_with (at_builtin; refine wpList_append_lies _ rfl (.tmp 31) (.tmp 36) 22 rfl w.heap.size 3 i0 _ 1 8 Try.underlying22 hi0 hz0 hz1 hz2 rfl (by decide) _ k _ rfl (H1.out.alloc _) ⟨wr.heap.size, 0, none⟩ 1 1 [.int .i64 (f k)] rfl rfl (cell_one_new _ _ _) (by simp [Value.oneCell']) (by decide) (by have := HN.out; have := HLT.out; unfold maxLen; omega) (by have := HN.out; have := HLT.out; omega) (by have := HB.out.size; simp; omega) (wr.heap.size + 1) (by simp) ?_; intro gA cA wA hownA hgrowA hatA hltA)
      exact ⟨⟨k + 1, HLT.out, by simp, by rw [rowK_succ]; exact hownA, below_of HB.out HB.out.size H1.out hgrowA⟩, by have := HLT.out; simp only [intOf]; omega⟩
    · have : k = n := by omega
      subst this
      have hltz : ¬ (k : Int) < (k : Int) := by omega
      obtain ⟨gm, capm, rfl, _, gml, hc1, hc2, hrow⟩ := row_of H1.out HN.out.1
      have c0 := hrow 0 HN.out.1
      rw [Nat.add_zero] at c0
      have n0 : (0 : Int) < (k : Int) := by have := HN.out; omega
      have n0' : 0 < k := HN.out.1
      have HC := Lib.hid (show k ≤ capm ∧ capm ≤ 9223372036854775807 from ⟨hc1, hc2⟩)
      have HR := Lib.hid hrow
      have HG := Lib.hid gml
      clear hk hlt hc1 hc2 hrow gml H1
      go_wp2_with fail
      go_quiet (fail)
      have HB2 : Hid (Below w.heap.size w (wr.drewN nq)) := Lib.hid ⟨HB.out.os, HB.out.tape, HB.out.output, HB.out.size, HB.out.block⟩
      have HR2 : Hid (IntsAt (wr.drewN nq) gm 0 k f) := Lib.hid HR.out
      have HG2 : Hid (gm < (wr.drewN nq).heap.size) := Lib.hid HG.out
      generalize wr.drewN nq = w2 at HB2 HR2 HG2 ⊢
      clear c0 HR HG HB
      go_wp2_with fail
      go_loopw [8, 9, 47] (fun s1 s2 i wr => ∃ j : Nat, j ≤ k ∧ i = .int .i64 j ∧ s1 = .int .i64 (mnI f j) ∧ s2 = .int .i64 (mxI f j) ∧ wr = w2) (fun _ _ i _ => k - (intOf i).toNat)
      case atStart => exact ⟨0, by omega, rfl, rfl, rfl, rfl⟩
      case round =>
        obtain ⟨j, hj, rfl, rfl, rfl, rfl⟩ := hrel
        by_cases hlt : j < k
        · have hltz : (j : Int) < (k : Int) := by omega
          have cJ := HR2.out j hlt
          rw [Nat.zero_add] at cJ
          have e1 : min (mnI f j) (f j) = mnI f (j + 1) := rfl
          have e2 : max (mxI f j) (f j) = mxI f (j + 1) := rfl
          have wk : IntKind.i64.wrap ((j : Int) + 1) = (j : Int) + 1 := by have := HN.out; rw [IntKind.wrap_i64]; omega
          have HLT := Lib.hid hlt
          clear hlt hj
          go_wp2_with fail
          exact ⟨⟨j + 1, HLT.out, by simp, rfl, rfl, trivial⟩, by have := HLT.out; simp only [intOf]; omega⟩
        · have : j = k := by omega
          subst this
          have hltz : ¬ (j : Int) < (j : Int) := by omega
          have hkk := HK.out
          have wk : wrap64 (kk : Int) = kk := by have := HKN.out; have := HN.out; unfold wrap64; omega
          have wn : IntKind.u64.wrap (j : Int) = j := by have := HN.out; rw [IntKind.wrap_u64]; omega
          have nz : ¬ (j : Int) = 0 := by have := HN.out; omega
          have nz' : ¬ j = 0 := by have := HN.out; omega
          clear hj hlt
          go_wp2_with fail
          refine wp_region_slots 124 (fun T0 d T w' => Rot wr f gm kk j capm T0 d T w' ∧ T0 5 = .slice (some ⟨gm, 0, none⟩) j capm ∧ T0 12 = .int .i64 kk)
            (by kernel_rfl) (by kernel_rfl) rfl rfl ?_ ?_ ?_
          · refine ⟨⟨Facts.start (by simp [rotL]), Ord.start (by simp [rotO]), fun _ _ => rfl, ?_⟩, rfl, rfl⟩
            exact ⟨(Below.refl _ _).drew, fun e => (by cases e), fun e => (by cases e), fun e => (by cases e), fun e => (by cases e)⟩
          · intro T0
            refine ⟨?_, ?_, ?_, ?_, ?_, ?_, ?_, ?_, ?_, ?_, trivial⟩
            · refine keeps_of' rfl ?_
              rintro d T w1 hd ha ⟨⟨hF, hO, hT, hW⟩, h5, h12⟩ K hK
              have o4 := hO.not (x := 4) (y := 0) (by simp [rotO]) hd
              have o8 := hO.not (x := 8) (y := 4) (by simp [rotO]) o4
              have o9 := hO.not (x := 9) (y := 8) (by simp [rotO]) o8
              go_simp
              refine hK _ _ ⟨⟨hF.step 0 65 _ (by simp [rotL]), hO.step 0 (by simp [rotO]), fun x hx => by unfold upd; rw [if_neg (by omega)]; exact hT x hx, ?_⟩, h5, h12⟩
              show RotW _ _ _ _ true (d 4) (d 8) (d 9) _ (T 69) (T 73) (T 13) _
              rw [o4, o8, o9]
              exact ⟨hW.hb.alloc hW.hb.size _, fun _ _ => World.ownsRow_made (e := 3) (size := 1) w1 #[] 0 hW.hb.size (by unfold maxLen; omega) rfl, fun e => (by cases e), fun e => (by cases e), fun e => (by cases e)⟩
            · refine keeps_of' rfl ?_
              rintro d T w1 hd ha ⟨hG, h5, h12⟩ K hK
              have e := (hG.2.2.1 5 (by decide)).trans h5
              go_simp
              exact hK _ _ ⟨hG.plain 1 66 _ (by decide) (by decide) (by simp [rotL]), h5, h12⟩
            · refine keeps_of' rfl ?_
              rintro d T w1 hd ha ⟨hG, h5, h12⟩ K hK
              have e := (hG.2.2.1 12 (by decide)).trans h12
              go_simp
              exact hK _ _ ⟨hG.plain 2 67 _ (by decide) (by decide) (by simp [rotL]), h5, h12⟩
            · refine keeps_of' rfl ?_
              rintro d T w1 hd ha ⟨hG, h5, h12⟩ K hK
              have e1 := hG.1 (1, 66, .slice (some ⟨gm, 0, none⟩) j capm) (by simp [rotL]) (ha 1 (by decide))
              have e2 := hG.1 (2, 67, .int .i64 kk) (by simp [rotL]) (ha 2 (by decide))
              simp only at e1 e2
              have x1 : (0 : Int) ≤ (kk : Int) := by omega
              have x2 : (kk : Int) ≤ (j : Int) := by have := HKN.out; omega
              have x3 : (j : Int) ≤ (capm : Int) := by have := HC.out; omega
              have x4 : ¬ capm - kk = 0 := by have := HC.out; have := HKN.out; omega
              have x7 : ¬ capm = kk := by have := HC.out; have := HKN.out; omega
              have x5 : ((j : Int) - (kk : Int)).toNat = j - kk := by omega
              have x6 : ((capm : Int) - (kk : Int)).toNat = capm - kk := by omega
              go_simp
              exact hK _ _ ⟨hG.plain 3 68 _ (by decide) (by decide) (by simp [rotL]), h5, h12⟩
            · refine keeps_of' rfl ?_
              rintro d T w1 hd ha ⟨⟨hF, hO, hT, hW⟩, h5, h12⟩ K hK
              have e2 := hF (3, 68, .slice (some ⟨gm, kk, none⟩) (j - kk) (capm - kk)) (by simp [rotL]) (ha 3 (by decide))
              simp only at e2
              have o0 := ha 0 (by decide)
              have o8 := hO.not (x := 8) (y := 4) (by simp [rotO]) hd
              have o9 := hO.not (x := 9) (y := 8) (by simp [rotO]) o8
              have hrow := hW.r0 o0 hd
              have l1 := HKN.out
              have l2 := HN.out
              refine wp_append_own w1 (.tmp 65) (.tmp 68) 22 (by rfl) wr.heap.size 3 i0 _ 1 8 Try.underlying22 hi0 hz0 hz1 hz2 rfl (by omega) (T 65) 0 _ (actOf_eval 124 T 65 (by decide)) hrow ⟨gm, kk, none⟩ (j - kk) (capm - kk) (rowK (fun x => f (kk + x)) (j - kk))
                ((actOf_eval 124 T 68 (by decide)).trans e2) (by rw [rowK_len]; omega) (news_at HR2.out hW.hb (by omega)) (rowK_one _ _) (by unfold maxLen; omega) (by omega) hW.hb.size ?_
              intro v' w3 hown hgrow _
              rw [actOf_put 124 T 69 _ (by decide)]
              refine hK _ _ ⟨⟨hF.step 4 69 _ (by simp [rotL]), hO.step 4 (by simp [rotO, o0]), fun x hx => by unfold upd; rw [if_neg (by omega)]; exact hT x hx, ?_⟩, h5, h12⟩
              show RotW _ _ _ _ (d 0) true (d 8) (d 9) (T 65) _ (T 73) (T 13) _
              rw [o8, o9]
              refine ⟨hW.hb.grown hgrow hW.hb.size (fun x hx => (hrow.lt x hx).1), fun _ e => (by cases e), fun _ _ => ?_, fun e => (by cases e), fun e => (by cases e)⟩
              simp only [Nat.zero_add, List.nil_append] at hown
              exact hown
            · refine keeps_of' rfl ?_
              rintro d T w1 hd ha ⟨hG, h5, h12⟩ K hK
              have e := (hG.2.2.1 5 (by decide)).trans h5
              go_simp
              exact hK _ _ ⟨hG.plain 5 70 _ (by decide) (by decide) (by simp [rotL]), h5, h12⟩
            · refine keeps_of' rfl ?_
              rintro d T w1 hd ha ⟨hG, h5, h12⟩ K hK
              have e := (hG.2.2.1 12 (by decide)).trans h12
              go_simp
              exact hK _ _ ⟨hG.plain 6 71 _ (by decide) (by decide) (by simp [rotL]), h5, h12⟩
            · refine keeps_of' rfl ?_
              rintro d T w1 hd ha ⟨hG, h5, h12⟩ K hK
              have e1 := hG.1 (5, 70, .slice (some ⟨gm, 0, none⟩) j capm) (by simp [rotL]) (ha 5 (by decide))
              have e2 := hG.1 (6, 71, .int .i64 kk) (by simp [rotL]) (ha 6 (by decide))
              simp only at e1 e2
              have x1 : (0 : Int) ≤ (kk : Int) := by omega
              have x3 : (kk : Int) ≤ (capm : Int) := by have := HC.out; have := HKN.out; omega
              have x4 : ¬ capm = 0 := by have := HC.out; have := HKN.out; omega
              go_simp
              exact hK _ _ ⟨hG.plain 7 72 _ (by decide) (by decide) (by simp [rotL]), h5, h12⟩
            · refine keeps_of' rfl ?_
              rintro d T w1 hd ha ⟨⟨hF, hO, hT, hW⟩, h5, h12⟩ K hK
              have e2 := hF (7, 72, .slice (some ⟨gm, 0, none⟩) kk capm) (by simp [rotL]) (ha 7 (by decide))
              simp only at e2
              have o4 := ha 4 (by decide)
              have o9 := hO.not (x := 9) (y := 8) (by simp [rotO]) hd
              have hrow := hW.r4 o4 hd
              have l1 := HKN.out
              have l2 := HN.out
              have hnews : ∀ y u, (rowK f kk)[y]? = some u → w1.cell? ((⟨gm, 0, none⟩ : Addr).add y) = some u := by
                have := news_at (o := 0) (m := kk) HR2.out hW.hb (by omega)
                simpa using this
              refine wp_append_own w1 (.tmp 69) (.tmp 72) 22 (by rfl) wr.heap.size 3 i0 _ 1 8 Try.underlying22 hi0 hz0 hz1 hz2 rfl (by omega) (T 69) (j - kk) _ (actOf_eval 124 T 69 (by decide)) hrow ⟨gm, 0, none⟩ kk capm (rowK f kk)
                ((actOf_eval 124 T 72 (by decide)).trans e2) (by rw [rowK_len]; omega) hnews (rowK_one _ _) (by unfold maxLen; omega) (by omega) hW.hb.size ?_
              intro v' w3 hown hgrow _
              rw [actOf_put 124 T 73 _ (by decide)]
              refine hK _ _ ⟨⟨hF.step 8 73 _ (by simp [rotL]), hO.step 8 (by simp [rotO, o4]), fun x hx => by unfold upd; rw [if_neg (by omega)]; exact hT x hx, ?_⟩, h5, h12⟩
              show RotW _ _ _ _ (d 0) (d 4) true (d 9) (T 65) (T 69) _ (T 13) _
              rw [o4, o9]
              refine ⟨hW.hb.grown hgrow hW.hb.size (fun x hx => (hrow.lt x hx).1), fun _ e => (by cases e), fun _ e => (by cases e), fun _ => ?_, fun e => (by cases e)⟩
              rw [turned_row f kk j (by omega), show j - kk + kk = j by omega] at hown
              exact hown
            · refine keeps_of' rfl ?_
              rintro d T w1 hd ha ⟨⟨hF, hO, hT, hW⟩, h5, h12⟩ K hK
              have o8 := ha 8 (by decide)
              go_simp
              refine hK _ _ ⟨⟨hF.step 9 13 (T 73) (by simp [rotL]), hO.step 9 (by simp [rotO, o8]), fun x hx => by unfold upd; rw [if_neg (by omega)]; exact hT x hx, ?_⟩, h5, h12⟩
              show RotW _ _ _ _ (d 0) (d 4) (d 8) true (T 65) (T 69) (T 73) (T 73) _
              exact ⟨hW.hb, hW.r0, hW.r4, hW.r8, fun _ => rfl⟩
          · rintro T w3 ⟨⟨_, _, hT, hW⟩, h5, h12⟩
            have e : actOf 124 T = ⟨#[T 0, T 1, T 2, T 3, T 4, T 5, T 6, T 7, T 8, T 9, T 10, T 11, T 12, T 13, T 14, T 15, T 16, T 17, T 18, T 19, T 20, T 21, T 22, T 23, T 24, T 25, T 26, T 27, T 28, T 29, T 30, T 31, T 32, T 33, T 34, T 35, T 36, T 37, T 38, T 39, T 40, T 41, T 42, T 43, T 44, T 45, T 46, T 47, T 48, T 49, T 50, T 51, T 52, T 53, T 54, T 55, T 56, T 57, T 58, T 59, T 60, T 61, T 62, T 63, T 64, T 65, T 66, T 67, T 68, T 69, T 70, T 71, T 72, T 73, T 74, T 75, T 76, T 77, T 78, T 79, T 80, T 81, T 82, T 83, T 84, T 85, T 86, T 87, T 88, T 89, T 90, T 91, T 92, T 93, T 94, T 95, T 96, T 97, T 98, T 99, T 100, T 101, T 102, T 103, T 104, T 105, T 106, T 107, T 108, T 109, T 110, T 111, T 112, T 113, T 114, T 115, T 116, T 117, T 118, T 119, T 120, T 121, T 122, T 123], []⟩ := rfl
            rw [e]
            have t5 : T 5 = .slice (some ⟨gm, 0, none⟩) j capm := (hT 5 (by decide)).trans h5
            have t8 : T 8 = .int .i64 (mnI f j) := hT 8 (by decide)
            have t9 : T 9 = .int .i64 (mxI f j) := hT 9 (by decide)
            obtain ⟨gr, capr, t73, _, _, hr1, hr2, hrow⟩ := row_of (hW.r8 rfl) (by have := HN.out; omega)
            have t13 : T 13 = .slice (some ⟨gr, 0, none⟩) j capr := (hW.r9 rfl).trans t73
            rw [t5, t8, t9, t13]
            have HB3 := Lib.hid (HB2.out.trans (hW.hb.mono HB2.out.size))
            have hI3 : IntsAt w3 gm 0 j f := fun x hx => cell_kept hW.hb (HR2.out x hx)
            obtain ⟨s1, s2⟩ := turned_same f kk j (by have := HKN.out; omega)
            have A1 := Lib.hid (mean_any f gm 0 j capm w3 hI3 HC.out.1 HC.out.2)
            have A2 := Lib.hid (var_any f gm 0 j capm w3 hI3 HC.out.1 HC.out.2)
            have A3 := mean_any (turned f kk j) gr 0 j capr w3 hrow hr1 hr2
            have A4 := var_any (turned f kk j) gr 0 j capr w3 hrow hr1 hr2
            rw [s1] at A3
            rw [s2] at A4
            have A3 := Lib.hid A3
            have A4 := Lib.hid A4
            have A5 := Lib.hid (uneven_any f gm 0 j capm w3 hI3 HC.out.1 HC.out.2)
            obtain ⟨b1, b2, b3, b4, b5, b6, b7⟩ := between_all f HFb.out j HN.out
            have q1 : floatOfInt .f64 (mnI f j) = flInt (mnI f j) := rfl
            have q2 : floatOfInt .f64 (mxI f j) = flInt (mxI f j) := rfl
            have q3 : (mnI f j == mxI f j) = decide (mnI f j = mxI f j) := rfl
            clear t5 t8 t9 t13 t73 hT hW h5 h12 hr1 hr2 hrow hI3 s1 s2 hkk wk wn nz nz'
            generalize mnI f j = lo at b1 b4 q1 q3 ⊢
            generalize mxI f j = hi at b2 b4 b7 q2 q3 ⊢
            generalize meanF f j = m1 at A1 A3 b1 b2 b5
            generalize varF f j = v1 at A2 A4 b3 b4 b6
            generalize unevenF f j = u1 at A5 b7
            have hv : (decide (lo = hi) = true ∨ decide (lo = hi) = false) := by cases decide (lo = hi) <;> simp
            generalize decide (lo = hi) = dv at b4 q3 hv
            rcases hv with rfl | rfl
            all_goals
              have b8 := b3
              rw [b4] at b8
              simp only [Bool.or_false, Bool.or_true] at b8
              by_cases hz : hi = 0
              · have z1 : (hi == 0) = true := by simp; exact hz
                clear hz b7
                go_wp2_with fail
                refine A1.out.mono ?_
                rintro _ _ ⟨rfl, rfl⟩
                go_wp2_with fail
                refine A2.out.mono ?_
                rintro _ _ ⟨rfl, rfl⟩
                go_wp2_with fail
                refine A3.out.mono ?_
                rintro _ _ ⟨rfl, rfl⟩
                go_wp2_with fail
                refine A4.out.mono ?_
                rintro _ _ ⟨rfl, rfl⟩
                go_wp2_with fail
                refine (awake2_any _).mono ?_
                rintro _ w9 ⟨rfl, hb⟩
                go_wp2
                go_ret
                exact ⟨rfl, HB3.out.trans (hb.mono HB3.out.size)⟩
              · have z1 : (hi == 0) = false := by simp; exact hz
                have b7 := b7.resolve_left hz
                clear hz
                go_wp2_with fail
                refine A1.out.mono ?_
                rintro _ _ ⟨rfl, rfl⟩
                go_wp2_with fail
                refine A2.out.mono ?_
                rintro _ _ ⟨rfl, rfl⟩
                go_wp2_with fail
                refine A3.out.mono ?_
                rintro _ _ ⟨rfl, rfl⟩
                go_wp2_with fail
                refine A4.out.mono ?_
                rintro _ _ ⟨rfl, rfl⟩
                go_wp2_with fail
                refine A5.out.mono ?_
                rintro _ _ ⟨rfl, dd, rfl⟩
                go_wp2_with fail
                refine (awake2_any _).mono ?_
                rintro _ w9 ⟨rfl, hb⟩
                go_wp2
                go_ret
                exact ⟨rfl, HB3.out.trans (Below.mono (show Below w3.heap.size w3 w9 from ⟨hb.os, hb.tape, hb.output, hb.size, hb.block⟩) HB3.out.size)⟩

set_option maxRecDepth 100000 in
set_option maxHeartbeats 3200000 in
theorem meanBetween_walk (v : Value) (l : List Int) (b : Int) (w : World) (hs' : IntSlice w v l) (_ : ∀ x ∈ l, (Lit.int .i64 x).wf = true) (_ : (Lit.int .i64 b).wf = true) :
    Calls Try.prog 3 #[v, .int .i64 b] w fun e w' => e = .returned (.bool true) ∧ Below w.heap.size w w' := by
  rcases hs' with ⟨ao, cap, rfl, rfl⟩ | ⟨bb, off, cap, rfl, h0, hcap, hmax, hcell⟩
  · go_enter Try.func3, Try.ntmps3
    go_wp2_with fail
    refine (awake2_any _).mono ?_
    rintro _ w2 ⟨rfl, hb⟩
    go_wp2
    go_ret
    exact ⟨rfl, hb⟩
  · by_cases hbig : 200 < l.length
    · obtain ⟨n, hn⟩ : ∃ n, l.length = n := ⟨_, rfl⟩
      rw [hn] at hbig ⊢
      have d0 : decide ((n : Int) < 1) = false := decide_eq_false (by omega)
      have d1 : decide (200 < (n : Int)) = true := decide_eq_true (by omega)
      clear hbig hcell h0 hcap hmax hn
      go_enter Try.func3, Try.ntmps3
      go_wp2_with fail
      refine (awake2_any _).mono ?_
      rintro _ w2 ⟨rfl, hb⟩
      go_wp2
      go_ret
      exact ⟨rfl, hb⟩
    · exact between_some bb off l.length cap b (fun j => l.getD j 0) w hcell (by omega)
end Go.Proofs.Ytfhcgnkjncfeiaa
