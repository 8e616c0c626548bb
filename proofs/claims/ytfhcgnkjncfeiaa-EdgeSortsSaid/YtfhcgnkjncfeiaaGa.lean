/- Contracts of package gauge: Life, Worst; the law's life. -/
import Derived.Test.YtfhcgnkjncfeiaaMj
import Derived.Test.YtfhcgnkjncfeiaaMe
namespace Go.Proofs.Ytfhcgnkjncfeiaa
open Go.ChangeShapes Go.WideShapes Go.RowKit Fl

def INFW : Nat := 9218868437227405312
/-- how much of a line's life is left -/
def lifeF (wear limit : Int) : Nat := if limit < 0 then INFW else if limit ≤ max wear 0 then 0 else ratioF (limit - max wear 0) limit
theorem heldI_pos {n : Int} (h : 1 ≤ n) : 1 ≤ heldI n ∧ heldI n ≤ 1000000 := by unfold heldI; omega
theorem heldI_mono {a b : Int} (h : a ≤ b) : heldI a ≤ heldI b := by unfold heldI; omega
/-- a life is an infinity, nought, or a part of one -/
theorem life_cases (wear limit : Int) : (limit < 0 ∧ lifeF wear limit = INFW) ∨ (0 ≤ limit ∧ limit ≤ max wear 0 ∧ lifeF wear limit = 0) ∨
    (0 ≤ limit ∧ max wear 0 < limit ∧ ∃ a b : Nat, lifeF wear limit = quoW a b ∧ heldI (limit - max wear 0) = a ∧ heldI limit = b ∧ 1 ≤ a ∧ a ≤ b ∧ b ≤ 1000000) := by
  unfold lifeF
  by_cases h1 : limit < 0
  · rw [if_pos h1]; exact Or.inl ⟨h1, rfl⟩
  · rw [if_neg h1]
    by_cases h2 : limit ≤ max wear 0
    · rw [if_pos h2]; exact Or.inr (Or.inl ⟨by omega, h2, rfl⟩)
    · rw [if_neg h2]
      refine Or.inr (Or.inr ⟨by omega, by omega, ?_⟩)
      have p1 := heldI_pos (n := limit - max wear 0) (by omega)
      have p2 := heldI_pos (n := limit) (by omega)
      have p3 := heldI_mono (a := limit - max wear 0) (b := limit) (by omega)
      rw [ratio_held]
      generalize heldI (limit - max wear 0) = p at p1 p3 ⊢
      generalize heldI limit = q at p2 p3 ⊢
      obtain ⟨a, rfl⟩ : ∃ a : Nat, p = a := ⟨p.toNat, by omega⟩
      obtain ⟨b, rfl⟩ : ∃ b : Nat, q = b := ⟨q.toNat, by omega⟩
      exact ⟨a, b, ratio_in a b (by omega) (by omega), rfl, rfl, by omega, by omega, by omega⟩
theorem INFW_fine : Wd INFW ∧ isnan INFW = false ∧ rank INFW = 9218868437227405312 := by
  refine ⟨by unfold Wd; decide, by decide, by decide⟩
theorem rank_plain {r : Nat} (h : r < INF) : rank r = r := by
  obtain ⟨_, h2, h3, h4⟩ := plain_fine h
  unfold rank
  rw [h2, h3, h4]; rfl
theorem life_fine (wear limit : Int) : Wd (lifeF wear limit) ∧ isnan (lifeF wear limit) = false ∧ rank (lifeF wear limit) = lifeF wear limit ∧ lifeF wear limit ≤ INFW := by
  have hI : INFW = INF := rfl
  rcases life_cases wear limit with ⟨_, e⟩ | ⟨_, _, e⟩ | ⟨_, _, a, b, e, _, _, h1, h2, h3⟩
  · rw [e]; exact ⟨INFW_fine.1, INFW_fine.2.1, INFW_fine.2.2, Nat.le_refl _⟩
  · rw [e]
    obtain ⟨p1, p2, _⟩ := plain_fine (show 0 < INF by decide)
    exact ⟨p1, p2, rank_plain (by decide), by decide⟩
  · rw [e]
    obtain ⟨_, _, q3, _⟩ := quoN a b (by omega) (by omega)
    obtain ⟨p1, p2, _⟩ := plain_fine q3
    exact ⟨p1, p2, rank_plain q3, by omega⟩

set_option maxHeartbeats 1600000 in
theorem life_any (a b : Int) (w : World) (hb : b ≤ 9223372036854775807) : Calls Try.prog 54 #[.int .i64 a, .int .i64 b] w fun e w' => e = .returned (.float .f64 (lifeF a b)) ∧ ∃ n, w' = w.drewN n := by
  unfold lifeF
  by_cases h1 : b < 0
  · rw [if_pos h1]
    have d1 : decide (b < 0) = true := decide_eq_true h1
    clear h1 hb
    go_enter Try.func54, Try.ntmps54
    go_wp2_with (first | (go_at_call 36; refine (cmp_any _ _ _ (by assumption) (by assumption)).mono ?_; rintro _ _ ⟨rfl, rfl⟩) | (go_at_call 30; refine (same_any _ _ _ (by assumption) (by assumption)).mono ?_; rintro _ _ ⟨rfl, rfl⟩) | (go_at_call 68; refine (isNaN_any _ _).mono ?_; rintro _ _ ⟨rfl, rfl⟩) | (go_at_call 28; refine (isInf_any _ _ (by assumption) (by assumption)).mono ?_; rintro _ _ ⟨rfl, rfl⟩) | (go_at_call 40; refine (nan_any _).mono ?_; rintro _ _ ⟨rfl, rfl⟩) | (go_at_call 39; refine (infPos_any _).mono ?_; rintro _ _ ⟨rfl, rfl⟩) | (go_at_call 39; refine (infNeg_any _).mono ?_; rintro _ _ ⟨rfl, rfl⟩) | (go_at_call 46; refine (negNought_any _).mono ?_; rintro _ _ ⟨rfl, rfl⟩) | (go_at_call 43; refine (bit_any _ _).mono ?_; rintro _ _ ⟨rfl, rfl⟩))
    go_ret
    exact ⟨rfl, 0, rfl⟩
  · rw [if_neg h1]
    have d1 : decide (b < 0) = false := decide_eq_false h1
    by_cases h2 : b ≤ max a 0
    · rw [if_pos h2]
      have d2 : decide (b ≤ max a 0) = true := decide_eq_true h2
      clear h1 h2 hb
      go_enter Try.func54, Try.ntmps54
      go_wp2_with (first | (go_at_call 36; refine (cmp_any _ _ _ (by assumption) (by assumption)).mono ?_; rintro _ _ ⟨rfl, rfl⟩) | (go_at_call 30; refine (same_any _ _ _ (by assumption) (by assumption)).mono ?_; rintro _ _ ⟨rfl, rfl⟩) | (go_at_call 68; refine (isNaN_any _ _).mono ?_; rintro _ _ ⟨rfl, rfl⟩) | (go_at_call 28; refine (isInf_any _ _ (by assumption) (by assumption)).mono ?_; rintro _ _ ⟨rfl, rfl⟩) | (go_at_call 40; refine (nan_any _).mono ?_; rintro _ _ ⟨rfl, rfl⟩) | (go_at_call 39; refine (infPos_any _).mono ?_; rintro _ _ ⟨rfl, rfl⟩) | (go_at_call 39; refine (infNeg_any _).mono ?_; rintro _ _ ⟨rfl, rfl⟩) | (go_at_call 46; refine (negNought_any _).mono ?_; rintro _ _ ⟨rfl, rfl⟩) | (go_at_call 43; refine (bit_any _ _).mono ?_; rintro _ _ ⟨rfl, rfl⟩))
      go_ret
      exact ⟨rfl, 0, rfl⟩
    · rw [if_neg h2]
      have d2 : decide (b ≤ max a 0) = false := decide_eq_false h2
      have w1 : IntKind.i64.wrap (b - max a 0) = b - max a 0 := by rw [IntKind.wrap_i64]; omega
      clear h1 h2 hb
      go_enter Try.func54, Try.ntmps54
      go_wp2_with fail
      refine (ratio_any _ _ _).mono ?_
      rintro _ _ ⟨rfl, k, rfl⟩
      go_wp2
      go_ret
      exact ⟨rfl, k, rfl⟩
set_option maxHeartbeats 1600000 in
theorem rlife_any (a b : Int) (w : World) (hb : b ≤ 9223372036854775807) : Calls Try.prog 53 #[.int .i64 a, .int .i64 b] w fun e w' => e = .returned (.float .f64 (lifeF a b)) ∧ w = w' := by
  have hm : max 0 a = max a 0 := Int.max_comm ..
  unfold lifeF
  by_cases h1 : b < 0
  · rw [if_pos h1]
    have d1 : decide (b < 0) = true := decide_eq_true h1
    clear h1 hb
    go_enter Try.func53, Try.ntmps53
    go_wp2_with (first | (go_at_call 36; refine (cmp_any _ _ _ (by assumption) (by assumption)).mono ?_; rintro _ _ ⟨rfl, rfl⟩) | (go_at_call 30; refine (same_any _ _ _ (by assumption) (by assumption)).mono ?_; rintro _ _ ⟨rfl, rfl⟩) | (go_at_call 68; refine (isNaN_any _ _).mono ?_; rintro _ _ ⟨rfl, rfl⟩) | (go_at_call 28; refine (isInf_any _ _ (by assumption) (by assumption)).mono ?_; rintro _ _ ⟨rfl, rfl⟩) | (go_at_call 40; refine (nan_any _).mono ?_; rintro _ _ ⟨rfl, rfl⟩) | (go_at_call 39; refine (infPos_any _).mono ?_; rintro _ _ ⟨rfl, rfl⟩) | (go_at_call 39; refine (infNeg_any _).mono ?_; rintro _ _ ⟨rfl, rfl⟩) | (go_at_call 46; refine (negNought_any _).mono ?_; rintro _ _ ⟨rfl, rfl⟩) | (go_at_call 43; refine (bit_any _ _).mono ?_; rintro _ _ ⟨rfl, rfl⟩))
    go_ret
    exact ⟨rfl, rfl⟩
  · rw [if_neg h1]
    have d1 : decide (b < 0) = false := decide_eq_false h1
    by_cases h2 : b ≤ max a 0
    · rw [if_pos h2]
      have d2 : decide (b ≤ max a 0) = true := decide_eq_true h2
      clear h1 h2 hb
      go_enter Try.func53, Try.ntmps53
      go_wp2_with (first | (go_at_call 36; refine (cmp_any _ _ _ (by assumption) (by assumption)).mono ?_; rintro _ _ ⟨rfl, rfl⟩) | (go_at_call 30; refine (same_any _ _ _ (by assumption) (by assumption)).mono ?_; rintro _ _ ⟨rfl, rfl⟩) | (go_at_call 68; refine (isNaN_any _ _).mono ?_; rintro _ _ ⟨rfl, rfl⟩) | (go_at_call 28; refine (isInf_any _ _ (by assumption) (by assumption)).mono ?_; rintro _ _ ⟨rfl, rfl⟩) | (go_at_call 40; refine (nan_any _).mono ?_; rintro _ _ ⟨rfl, rfl⟩) | (go_at_call 39; refine (infPos_any _).mono ?_; rintro _ _ ⟨rfl, rfl⟩) | (go_at_call 39; refine (infNeg_any _).mono ?_; rintro _ _ ⟨rfl, rfl⟩) | (go_at_call 46; refine (negNought_any _).mono ?_; rintro _ _ ⟨rfl, rfl⟩) | (go_at_call 43; refine (bit_any _ _).mono ?_; rintro _ _ ⟨rfl, rfl⟩))
      go_ret
      exact ⟨rfl, rfl⟩
    · rw [if_neg h2]
      have d2 : decide (b ≤ max a 0) = false := decide_eq_false h2
      have w1 : IntKind.i64.wrap (b - max a 0) = b - max a 0 := by rw [IntKind.wrap_i64]; omega
      clear h1 h2 hb
      go_enter Try.func53, Try.ntmps53
      go_wp2_with fail
      refine (rratio_any _ _ _).mono ?_
      rintro _ _ ⟨rfl, rfl⟩
      go_wp2
      go_ret
      exact ⟨rfl, rfl⟩

/-! ### the worst one -/
/-- a slice of n whole numbers -/
def SlAt (w : World) (v : Value) (n : Nat) (f : Nat → Int) : Prop :=
  (∃ ao cap, v = .slice ao 0 cap ∧ n = 0) ∨ ∃ b off cap, v = .slice (some ⟨b, off, none⟩) n cap ∧ 0 < n ∧ n ≤ cap ∧ cap ≤ 9223372036854775807 ∧ IntsAt w b off n f
theorem IntSlice.slAt {w : World} {v : Value} {l : List Int} (h : IntSlice w v l) : SlAt w v l.length fun j => l.getD j 0 := by
  rcases h with ⟨ao, cap, h, rfl⟩ | ⟨b, off, cap, h, h0, h1, h2, h3⟩
  · exact Or.inl ⟨ao, cap, h, rfl⟩
  · exact Or.inr ⟨b, off, cap, h, h0, h1, by unfold maxLen at h2; omega, h3⟩
theorem SlAt.kept {w w' : World} {v : Value} {n : Nat} {f : Nat → Int} (h : SlAt w v n f) (hb : Below w.heap.size w w') : SlAt w' v n f := by
  rcases h with h | ⟨b, off, cap, h, h0, h1, h2, h3⟩
  · exact Or.inl h
  · exact Or.inr ⟨b, off, cap, h, h0, h1, h2, fun j hj => cell_kept hb (h3 j hj)⟩
theorem SlAt.form {w : World} {v : Value} {n : Nat} {f : Nat → Int} (h : SlAt w v n f) : ∃ ao cap, v = .slice ao n cap := by
  rcases h with ⟨ao, cap, h, rfl⟩ | ⟨b, off, cap, h, _⟩
  · exact ⟨ao, cap, h⟩
  · exact ⟨_, cap, h⟩
/-- an owned row, cell by cell -/
theorem own_at {w : World} {base : Nat} {e : TypeId} {v : Value} {n : Nat} {xs : List Value} (h : w.ownsRow base e 1 v n xs) (hn : 0 < n) : ∃ g cap, v = .slice (some ⟨g, 0, none⟩) n cap ∧ base ≤ g ∧ g < w.heap.size ∧ n ≤ cap ∧ cap ≤ 9223372036854775807 ∧ ∀ j, j < n → cellAt (obj w g) (0 + j) = xs[j]? := by
  have hlt := h.lt
  rcases h.2 with ⟨_, h0⟩ | ⟨g, cap, cur, rfl, hb, hg, hc1, hc2, _, ht⟩
  · omega
  · refine ⟨g, cap, rfl, hb, (hlt g rfl).2, hc1, by unfold maxLen at hc2; omega, fun j hj => ?_⟩
    have h1 : (cur.toList.take (n * 1))[j]? = xs[j]? := by rw [ht]
    rw [List.getElem?_take, if_pos (by omega)] at h1
    rw [Nat.zero_add, show obj w g = some (.cells cur e (0, 0)) from hg]
    show cur[j]? = _
    rw [← Array.getElem?_toList, h1]
def rowF (f : Nat → Nat) (k : Nat) : List Value := (List.range k).map fun j => .float .f64 (f j)
theorem rowF_succ (f : Nat → Nat) (k : Nat) : rowF f (k + 1) = rowF f k ++ [.float .f64 (f k)] := by unfold rowF; rw [List.range_succ]; simp
theorem rowF_get (f : Nat → Nat) (k j : Nat) (hj : j < k) : (rowF f k)[j]? = some (.float .f64 (f j)) := by unfold rowF; simp [hj]
/-- the limit of a line -/
def limF (m : Nat) (g : Nat → Int) (j : Nat) : Int := if j < m then g j else -1
def worstF (f L : Nat → Int) (n : Nat) : Nat := if n = 0 then NANW else minAt (fun j => lifeF (f j) (L j)) (n - 1)
theorem info25 : (Try.prog.info? 25).map (fun i => (i.zero, i.size, i.bytes)) = some (some (.float .f64 0), 1, 8) := by kernel_rfl
theorem below_own {w wr wA : World} {base k : Nat} {e : TypeId} {s1 : Value} {xs : List Value} {o1 : Obj} (hb : Below base w wr) (hs : base ≤ wr.heap.size) (H1 : wr.ownsRow base e 1 s1 k xs) (hgA : (wr.alloc o1).grownBy wA s1.ownBlock) : Below base w wA :=
  (hb.alloc hs o1).grown hgA (by simp; omega) (fun j hj => (H1.lt j hj).1)
theorem ownsRow_drewN {w : World} {base n : Nat} {e : TypeId} {v : Value} {xs : List Value} (h : w.ownsRow base e 1 v n xs) (k : Nat) : (w.drewN k).ownsRow base e 1 v n xs := h
theorem worst_rank (f L : Nat → Int) (n j : Nat) (hj : j < n) : rank (worstF f L n) ≤ rank (lifeF (f j) (L j)) := by
  unfold worstF
  rw [if_neg (by omega)]
  have key : ∀ (h : Nat → Nat) (i j : Nat), j ≤ i → rank (minAt h i) ≤ rank (h j) := by
    intro h i
    induction i with
    | zero => intro j hj; obtain rfl : j = 0 := by omega
              exact Int.le_refl _
    | succ i ih =>
      intro j hj
      unfold minAt
      split
      · rename_i hl
        rw [ecmp_lt_iff] at hl
        rcases Nat.eq_or_lt_of_le hj with e | e
        · rw [e]; exact Int.le_refl _
        · have := ih j (by omega); omega
      · rename_i hl
        rw [ecmp_lt_iff] at hl
        rcases Nat.eq_or_lt_of_le hj with e | e
        · rw [e]; omega
        · exact ih j (by omega)
  exact key _ (n - 1) j (by omega)
theorem worst_in (f L : Nat → Int) (n : Nat) (hn : 0 < n) : ∃ j, j < n ∧ worstF f L n = lifeF (f j) (L j) := by
  unfold worstF
  rw [if_neg (by omega)]
  exact minAt_of (P := fun x => ∃ j, j < n ∧ x = lifeF (f j) (L j)) (n - 1) fun j hj => ⟨j, by omega, rfl⟩
set_option maxRecDepth 100000 in
set_option maxHeartbeats 3200000 in
theorem worst_any (v1 v2 : Value) (n m : Nat) (f g : Nat → Int) (w : World) (h1 : SlAt w v1 n f) (h2 : SlAt w v2 m g) (hg : ∀ j, j < m → g j ≤ 9223372036854775807) (hn : n ≤ 100000) :
    Calls Try.prog 55 #[v1, v2] w fun e w' => e = .returned (.float .f64 (worstF f (limF m g) n)) ∧ Below w.heap.size w w' := by
  obtain ⟨ao1, cap1, rfl⟩ := h1.form
  obtain ⟨ao2, cap2, rfl⟩ := h2.form
  obtain ⟨i0, hi0, hz0, hz1, hz2⟩ := info_parts info25
  obtain ⟨F, hF⟩ : ∃ F : Nat → Nat, F = fun j => lifeF (f j) (limF m g j) := ⟨_, rfl⟩
  have hFj : ∀ j, lifeF (f j) (limF m g j) = F j := fun j => by rw [hF]
  have hlim : ∀ j, limF m g j ≤ 9223372036854775807 := fun j => by
    unfold limF; split
    · exact hg j (by assumption)
    · omega
  have H1 := Lib.hid h1
  have H2 := Lib.hid h2
  have HF := Lib.hid hF
  have HFj := Lib.hid hFj
  have HL := Lib.hid hlim
  have HN := Lib.hid hn
  have hX0 : n = 0 → worstF f (limF m g) n = NANW := fun h => by unfold worstF; rw [if_pos h]
  have hX1 : ¬ n = 0 → worstF f (limF m g) n = minAt F (n - 1) := fun h => by unfold worstF; rw [if_neg h, hF]
  generalize worstF f (limF m g) n = X at hX0 hX1 ⊢
  have HX0 := Lib.hid hX0
  have HX1 := Lib.hid hX1
  clear h1 h2 hF hFj hlim hg hn hX0 hX1
  go_enter Try.func55, Try.ntmps55
  go_wp2_with fail
  go_loopw [5, 11] (fun s i wr => ∃ k : Nat, k ≤ n ∧ i = .int .i64 k ∧ wr.ownsRow w.heap.size 25 1 s k (rowF F k) ∧ (k = 0 → s = .slice none 0 0) ∧ Below w.heap.size w wr) (fun _ i _ => n - (intOf i).toNat)
  case atStart => exact ⟨0, by omega, rfl, World.ownsRow_nil _ _ _ _, fun _ => rfl, Below.refl _ _⟩
  case round =>
    obtain ⟨k, hk, rfl, o1, oz, ob⟩ := hrel
    have HO := Lib.hid o1
    have HB := Lib.hid ob
    have HZ := Lib.hid oz
    clear o1 ob oz
    by_cases hlt : k < n
    · have hltz : (k : Int) < (n : Int) := by omega
      have k0 : (0 : Int) ≤ (k : Int) := by omega
      have wk : IntKind.i64.wrap ((k : Int) + 1) = (k : Int) + 1 := by have := HN.out; rw [IntKind.wrap_i64]; omega
      rcases (H1.out.kept HB.out) with ⟨_, _, _, e⟩ | ⟨b1, o1, c1, e1, _, _, _, hI⟩
      · exfalso; omega
      obtain ⟨rfl, rfl⟩ : ao1 = some ⟨b1, o1, none⟩ ∧ cap1 = c1 := by simpa using e1
      have cJ := hI k hlt
      have hFk := HFj.out k
      have hlk := HL.out k
      have HLT := Lib.hid hlt
      clear hI e1 hlt hk
      by_cases hm : k < m
      · have hmz : (k : Int) < (m : Int) := by omega
        have dm : decide ((k : Int) < (m : Int)) = true := decide_eq_true hmz
        rcases (H2.out.kept HB.out) with ⟨_, _, _, e⟩ | ⟨b2, o2, c2, e2, _, _, _, hI⟩
        · exfalso; omega
        obtain ⟨rfl, rfl⟩ : ao2 = some ⟨b2, o2, none⟩ ∧ cap2 = c2 := by simpa using e2
        have cL := hI k hm
        have el : limF m g k = g k := by unfold limF; rw [if_pos hm]
        rw [el] at hFk hlk
        have LK := fun w => Lib.hid (life_any (f k) (g k) w hlk)
        clear hI e2 el hm hlk
        go_wp2_with fail
        refine (LK _).out.mono ?_
        rintro _ _ ⟨rfl, d, rfl⟩
        rw [hFk]
        go_wp2_with (at_builtin; refine wpList_append_lies _ rfl (.tmp 24) (.tmp 28) 60 rfl w.heap.size 25 i0 _ 1 8 Try.underlying60 hi0 hz0 hz1 hz2 rfl (by decide) _ k _ rfl ((ownsRow_drewN HO.out d).alloc _) ⟨wr.heap.size, 0, none⟩ 1 1 [.float .f64 (F k)] rfl rfl (cell_one_new (wr.drewN d) _ _) (by simp [Value.oneCell']) (by decide) (by have := HN.out; have := HLT.out; unfold maxLen; omega) (by have := HN.out; have := HLT.out; omega) (by have := HB.out.size; simp; omega) (wr.heap.size + 1) (by simp) ?_; intro gA cA wA hownA hgrowA hatA hltA)
        exact ⟨⟨k + 1, HLT.out, by simp, by rw [rowF_succ]; exact hownA, fun e => (by omega), below_own (wr := wr.drewN d) ⟨HB.out.os, HB.out.tape, HB.out.output, HB.out.size, HB.out.block⟩ HB.out.size (ownsRow_drewN HO.out d) hgrowA⟩, by have := HLT.out; simp only [intOf]; omega⟩
      · have dm : decide ((k : Int) < (m : Int)) = false := decide_eq_false (by omega)
        have dmn : decide (k < m) = false := decide_eq_false hm
        have el : limF m g k = -1 := by unfold limF; rw [if_neg hm]
        rw [el] at hFk
        have LK := fun w => Lib.hid (life_any (f k) (-1) w (by decide))
        clear el hm hlk
        go_wp2_with fail
        refine (LK _).out.mono ?_
        rintro _ _ ⟨rfl, d, rfl⟩
        rw [hFk]
        go_wp2_with (at_builtin; refine wpList_append_lies _ rfl (.tmp 24) (.tmp 28) 60 rfl w.heap.size 25 i0 _ 1 8 Try.underlying60 hi0 hz0 hz1 hz2 rfl (by decide) _ k _ rfl ((ownsRow_drewN HO.out d).alloc _) ⟨wr.heap.size, 0, none⟩ 1 1 [.float .f64 (F k)] rfl rfl (cell_one_new (wr.drewN d) _ _) (by simp [Value.oneCell']) (by decide) (by have := HN.out; have := HLT.out; unfold maxLen; omega) (by have := HN.out; have := HLT.out; omega) (by have := HB.out.size; simp; omega) (wr.heap.size + 1) (by simp) ?_; intro gA cA wA hownA hgrowA hatA hltA)
        exact ⟨⟨k + 1, HLT.out, by simp, by rw [rowF_succ]; exact hownA, fun e => (by omega), below_own (wr := wr.drewN d) ⟨HB.out.os, HB.out.tape, HB.out.output, HB.out.size, HB.out.block⟩ HB.out.size (ownsRow_drewN HO.out d) hgrowA⟩, by have := HLT.out; simp only [intOf]; omega⟩
    · have : k = n := by omega
      subst this
      have hltz : ¬ (k : Int) < (k : Int) := by omega
      by_cases h0 : k = 0
      · have ez := HZ.out h0
        subst ez
        have hX := Lib.hid (HX0.out h0)
        clear h0 hk hlt
        go_wp2_with fail
        refine (min_none _ _).mono ?_
        rintro _ _ ⟨rfl, rfl⟩
        go_wp2
        go_ret
        exact ⟨by rw [hX.out]; rfl, HB.out⟩
      · obtain ⟨gr, capr, rfl, _, _, _, _, hc⟩ := own_at HO.out (by omega)
        have hX := Lib.hid (HX1.out h0)
        have KM := Lib.hid (min_any F gr 0 capr k wr (by omega) (by have := HN.out; omega) (fun j _ => by rw [HF.out]; exact (life_fine _ _).1) (fun j hj => by rw [hc j hj]; exact rowF_get F k j hj))
        clear h0 hk hlt hc
        go_wp2_with fail
        refine KM.out.mono ?_
        rintro _ _ ⟨rfl, rfl⟩
        go_wp2
        go_ret
        exact ⟨by rw [hX.out]; rfl, HB.out⟩
end Go.Proofs.Ytfhcgnkjncfeiaa
