/- The document's Sort, Min, Max: sorted by rank, the same numbers. -/
import Derived.Test.YtfhcgnkjncfeiaaGa
namespace Go.Proofs.Ytfhcgnkjncfeiaa
open Go.ChangeShapes Go.WideShapes Go.RowKit Fl

@[go_sem] theorem run_store_float {P : Program} (w : World) (a : Addr) (m : Mode) (k : FloatKind) (x : Nat) : (store a (.float k x) m).run P w = stored P w a (.float k x) m := run_store P w a _ m rfl
def flts (s : List Nat) : List Value := s.map (.float .f64 ·)
/-- a slice of n numbers -/
def SlF (w : World) (v : Value) (n : Nat) (F : Nat → Nat) : Prop :=
  (∃ ao cap, v = .slice ao 0 cap ∧ n = 0) ∨ ∃ b off cap, v = .slice (some ⟨b, off, none⟩) n cap ∧ 0 < n ∧ n ≤ cap ∧ cap ≤ 9223372036854775807 ∧ ∀ j, j < n → cellAt (obj w b) (off + j) = some (.float .f64 (F j))
theorem SlF.form {w : World} {v : Value} {n : Nat} {f : Nat → Nat} (h : SlF w v n f) : ∃ ao cap, v = .slice ao n cap := by
  rcases h with ⟨ao, cap, h, rfl⟩ | ⟨b, off, cap, h, _⟩
  · exact ⟨ao, cap, h⟩
  · exact ⟨_, cap, h⟩
theorem SlF.kept {w w' : World} {v : Value} {n : Nat} {f : Nat → Nat} (h : SlF w v n f) (hb : Below w.heap.size w w') : SlF w' v n f := by
  rcases h with h | ⟨b, off, cap, h, h0, h1, h2, h3⟩
  · exact Or.inl h
  · exact Or.inr ⟨b, off, cap, h, h0, h1, h2, fun j hj => cell_kept hb (h3 j hj)⟩
/-- sorted -/
def Srt (s : List Nat) : Prop := s.Pairwise fun a b => rank a ≤ rank b
theorem srt_ins {s : List Nat} {i x : Nat} (h : Srt s) (h1 : ∀ z ∈ s.drop i, rank x ≤ rank z) (h2 : ∀ z ∈ s.take i, rank z ≤ rank x) : Srt (s.take i ++ x :: s.drop i) := by
  unfold Srt at h ⊢
  have h' : (s.take i ++ s.drop i).Pairwise fun a b => rank a ≤ rank b := by rw [List.take_append_drop]; exact h
  rw [List.pairwise_append] at h' ⊢
  refine ⟨h'.1, List.pairwise_cons.2 ⟨h1, h'.2.1⟩, fun a ha b hb => ?_⟩
  rcases List.mem_cons.1 hb with e | e
  · rw [e]; exact h2 a ha
  · exact h'.2.2 a ha b e
theorem srt_take {s : List Nat} {i x : Nat} (h : Srt s) (hi : i < s.length) (hx : rank (s.getD i 0) ≤ rank x) : ∀ z ∈ s.take (i + 1), rank z ≤ rank x := by
  intro z hz
  obtain ⟨j, hj, e⟩ := List.getElem_of_mem hz
  rw [List.length_take] at hj
  rw [List.getElem_take] at e
  have hg : s.getD i 0 = s[i] := by rw [List.getD_eq_getElem?_getD, List.getElem?_eq_getElem hi]; rfl
  rw [hg] at hx
  rcases Nat.lt_or_ge j i with hji | hji
  · have := (List.pairwise_iff_getElem.1 h) j i (by omega) hi hji
    rw [e] at this; omega
  · have : j = i := by omega
    subst this
    rw [← e]; exact hx
theorem ins_perm (s : List Nat) (i x : Nat) : (s.take i ++ x :: s.drop i).Perm (x :: s) := by
  have h := (List.perm_middle (a := x) (l₁ := s.take i) (l₂ := s.drop i))
  rw [List.take_append_drop] at h
  exact h
theorem flts_set (s : List Nat) (i y x : Nat) (hi : i ≤ s.length) : (flts (s.take i ++ y :: s.drop i)).set i (.float .f64 x) = flts (s.take i ++ x :: s.drop i) := by
  unfold flts
  rw [List.map_append, List.map_append, List.map_cons, List.map_cons, List.set_append_right _ _ (by simp; omega)]
  have : i - (List.map (fun x => Value.float FloatKind.f64 x) (s.take i)).length = 0 := by simp; omega
  rw [this]; rfl
theorem flts_get (s : List Nat) (i y p : Nat) (hp : p < i) (hi : i ≤ s.length) : (flts (s.take i ++ y :: s.drop i))[p]? = some (.float .f64 (s.getD p 0)) := by
  unfold flts
  rw [List.getElem?_map, List.getElem?_append_left (by simp; omega), List.getElem?_take, if_pos hp, List.getD_eq_getElem?_getD, List.getElem?_eq_getElem (by omega)]
  rfl
theorem shift_step (s : List Nat) (p y : Nat) (hp : p < s.length) : (flts (s.take (p + 1) ++ y :: s.drop (p + 1))).set (p + 1) (.float .f64 (s.getD p 0)) = flts (s.take p ++ (s.getD p 0) :: s.drop p) := by
  rw [flts_set s (p + 1) y _ (by omega)]
  congr 1
  have hg : s.getD p 0 = s[p] := by rw [List.getD_eq_getElem?_getD, List.getElem?_eq_getElem hp]; rfl
  rw [hg, List.take_add_one, List.getElem?_eq_getElem hp]
  simp only [Option.toList_some, List.append_assoc, List.singleton_append]
  congr 1
  rw [List.drop_eq_getElem_cons hp]
theorem own_cells {w : World} {base n g cap : Nat} {e : TypeId} {xs : List Value} (h : w.ownsRow base e 1 (.slice (some ⟨g, 0, none⟩) n cap) n xs) (j : Nat) (hj : j < n) : cellAt (obj w g) j = xs[j]? ∧ iceAt (obj w g) j = false := by
  have h1 := World.ownsRow.cellAt h j (by omega)
  have h2 := World.ownsRow.frozenAt h j
  rw [cell?_heap] at h1
  rw [frozen?_heap] at h2
  exact ⟨h1, h2⟩
theorem own_set {w w0 : World} {base n g cap : Nat} {e : TypeId} {xs : List Value} (h : w.ownsRow base e 1 (.slice (some ⟨g, 0, none⟩) n cap) n xs) (hb : Below base w0 w) (hs : base ≤ w.heap.size) (j : Nat) (u : Value) : (w.setCell ⟨g, j, none⟩ u).ownsRow base e 1 (.slice (some ⟨g, 0, none⟩) n cap) n (xs.set j u) ∧ Below base w0 (w.setCell ⟨g, j, none⟩ u) := by
  obtain ⟨h1, h2⟩ := World.ownsRow.stored h j u
  exact ⟨h1, hb.grown h2 hs (fun k hk => by cases hk; exact (h.lt g rfl).1)⟩
theorem own_form {w : World} {base n : Nat} {e : TypeId} {v : Value} {xs : List Value} (h : w.ownsRow base e 1 v n xs) : ∃ ao cap, v = .slice ao n cap := by
  rcases h.2 with ⟨h1, h0⟩ | ⟨g, cap, _, h1, _⟩
  · exact ⟨none, 0, by rw [h1, h0]⟩
  · exact ⟨_, cap, h1⟩
/-- the first k numbers -/
def first (F : Nat → Nat) (k : Nat) : List Nat := (List.range k).map F
theorem first_succ (F : Nat → Nat) (k : Nat) : first F (k + 1) = first F k ++ [F k] := by unfold first; rw [List.range_succ]; simp
/-- what is sorted so far -/
structure SortAt (w w0 : World) (base : Nat) (F : Nat → Nat) (k : Nat) (v : Value) (s : List Nat) : Prop where
  hl : s.length = k
  hp : s.Perm (first F k)
  hs : Srt s
  ho : w.ownsRow base 25 1 v k (flts s)
  hz : k = 0 → v = .slice none 0 0
  hb : Below base w0 w
  hw : base ≤ w.heap.size
theorem sort_end {w w0 : World} {base : Nat} {F : Nat → Nat} {k g cap i y : Nat} {v : Value} {s : List Nat} {wA : World} (h : SortAt wA w0 base F k v s) (hi : i ≤ k)
    (ho : w.ownsRow base 25 1 (.slice (some ⟨g, 0, none⟩) (k + 1) cap) (k + 1) (flts (s.take i ++ y :: s.drop i))) (hb : Below base w0 w) (hw : base ≤ w.heap.size)
    (h1 : ∀ z ∈ s.drop i, rank (F k) < rank z) (h2 : ∀ z ∈ s.take i, rank z ≤ rank (F k)) :
    SortAt (w.setCell ⟨g, i, none⟩ (.float .f64 (F k))) w0 base F (k + 1) (.slice (some ⟨g, 0, none⟩) (k + 1) cap) (s.take i ++ F k :: s.drop i) := by
  obtain ⟨o1, o2⟩ := own_set ho hb hw i (.float .f64 (F k))
  rw [flts_set s i y _ (by rw [h.hl]; exact hi)] at o1
  refine ⟨by have := h.hl; simp; omega, ?_, srt_ins h.hs (fun z hz => by have := h1 z hz; omega) h2, o1, fun e => (by omega), o2, by simpa using hw⟩
  rw [first_succ]
  refine (ins_perm s i (F k)).trans ?_
  refine (List.Perm.cons _ h.hp).trans ?_
  exact (List.perm_append_singleton (F k) (first F k)).symm

set_option maxRecDepth 100000 in
set_option maxHeartbeats 6400000 in
theorem rsort_any (w : World) (v : Value) (n : Nat) (F : Nat → Nat) (h : SlF w v n F) (hF : ∀ j, Wd (F j)) (hn : n ≤ 100000) :
    Calls Try.prog 64 #[v] w fun e w' => ∃ v' s, e = .returned v' ∧ SortAt w' w w.heap.size F n v' s := by
  obtain ⟨ao, cap, rfl⟩ := h.form
  obtain ⟨i0, hi0, hz0, hz1, hz2⟩ := info_parts info25
  have HS := Lib.hid h
  have HF := Lib.hid hF
  have HN := Lib.hid hn
  clear h hF hn
  go_enter Try.func64, Try.ntmps64
  go_wp2_with fail
  go_loopw [3, 9] (fun s3 i wr => ∃ k : Nat, k ≤ n ∧ i = .int .i64 k ∧ ∃ s, SortAt wr w w.heap.size F k s3 s) (fun _ i _ => n - (intOf i).toNat)
  case atStart => exact ⟨0, by omega, rfl, [], ⟨rfl, List.Perm.refl _, List.Pairwise.nil, World.ownsRow_nil _ _ _ _, fun _ => rfl, Below.refl _ _, Nat.le_refl _⟩⟩
  case round =>
    obtain ⟨k, hk, rfl, s, hs⟩ := hrel
    have HA := Lib.hid hs
    clear hs
    by_cases hlt : k < n
    · have hltz : (k : Int) < (n : Int) := by omega
      have k0 : (0 : Int) ≤ (k : Int) := by omega
      have wk : IntKind.i64.wrap ((k : Int) + 1) = (k : Int) + 1 := by have := HN.out; rw [IntKind.wrap_i64]; omega
      rcases (HS.out.kept HA.out.hb) with ⟨_, _, _, e⟩ | ⟨b1, o1, c1, e1, _, _, _, hI⟩
      · exfalso; omega
      obtain ⟨rfl, rfl⟩ : ao = some ⟨b1, o1, none⟩ ∧ cap = c1 := by simpa using e1
      have cJ := hI k hlt
      have HLT := Lib.hid hlt
      obtain ⟨ao3, cap3, rfl⟩ := own_form HA.out.ho
      have HO := Lib.hid HA.out.ho
      obtain ⟨x, hx⟩ : ∃ x, F k = x := ⟨_, rfl⟩
      rw [hx] at cJ
      have HX := Lib.hid hx
      have dx : Wd x := by rw [← hx]; exact HF.out k
      clear hI e1 hlt hk hx
      go_wp2_with (at_builtin; refine wpList_append_lies _ rfl (.tmp 15) (.tmp 17) 60 rfl w.heap.size 25 i0 _ 1 8 Try.underlying60 hi0 hz0 hz1 hz2 rfl (by decide) _ k _ rfl (HO.out.alloc _) ⟨wr.heap.size, 0, none⟩ 1 1 [.float .f64 x] rfl rfl (cell_one_new _ _ _) (by simp [Value.oneCell']) (by decide) (by have := HN.out; have := HLT.out; unfold maxLen; omega) (by have := HN.out; have := HLT.out; omega) (by have := HA.out.hw; simp; omega) (wr.heap.size + 1) (by simp) ?_; intro gA cA wA hownA hgrowA hatA hltA)
      have hb1 := below_own HA.out.hb HA.out.hw HO.out hgrowA
      have hw1 : w.heap.size ≤ wA.heap.size := hb1.size
      have ho1 : wA.ownsRow w.heap.size 25 1 (.slice (some ⟨gA, 0, none⟩) (k + 1) cA) (k + 1) (flts (s.take k ++ x :: s.drop k)) := by
        have e : flts (s.take k ++ x :: s.drop k) = flts s ++ [.float .f64 x] := by
          have hl := HA.out.hl
          rw [List.take_of_length_le (by omega), List.drop_eq_nil_of_le (by omega)]
          unfold flts; simp
        rw [e]; exact hownA
      have H1 := Lib.hid ho1
      have HB1 := Lib.hid hb1
      have HW1 := Lib.hid hw1
      clear hownA hgrowA hatA hltA hb1 hw1 ho1 HO cJ
      go_loopw [6] (fun iv wr2 => ∃ i : Nat, i ≤ k ∧ iv = .int .i64 i ∧ (∃ y, wr2.ownsRow w.heap.size 25 1 (.slice (some ⟨gA, 0, none⟩) (k + 1) cA) (k + 1) (flts (s.take i ++ y :: s.drop i))) ∧ (∀ z ∈ s.drop i, rank x < rank z) ∧ Below w.heap.size w wr2) (fun iv _ => (intOf iv).toNat)
      case atStart => exact ⟨k, Nat.le_refl _, rfl, ⟨x, H1.out⟩, fun z hz => (by rw [List.drop_eq_nil_of_le (by have := HA.out.hl; omega)] at hz; cases hz), HB1.out⟩
      case round =>
        obtain ⟨i, hi, rfl, ⟨y, ho⟩, hd, hb⟩ := hrel
        clear H1 HB1 HW1
        have HO := Lib.hid ho
        have HD := Lib.hid hd
        have HB := Lib.hid hb
        have HI := Lib.hid hi
        have i0 : (0 : Int) ≤ (i : Int) := Int.natCast_nonneg i
        have i1 : (i : Int) < (k : Int) + 1 := by omega
        have i2 : i < k + 1 := by omega
        obtain ⟨ci, ii⟩ := own_cells ho i i2
        have ci' : cellAt (obj wr gA) i = some (.float .f64 y) := by
          rw [ci]; unfold flts
          rw [List.getElem?_map, List.getElem?_append_right (by simp; omega)]
          have : i - (s.take i).length = 0 := by have := HA.out.hl; simp; omega
          rw [this]; rfl
        by_cases hi0 : i = 0
        · have d1 : decide (0 < (i : Int)) = false := decide_eq_false (by omega)
          have d1' : ¬ (0 : Int) < (i : Int) := by omega
          have d2 : decide (0 < i) = false := decide_eq_false (by omega)
          have d2' : ¬ 0 < i := by omega
          have E := sort_end HA.out HI.out HO.out HB.out HB.out.size (by rw [HX.out]; exact HD.out) (fun z hz => by rw [hi0] at hz; cases hz)
          rw [HX.out] at E
          have E := Lib.hid E
          clear ho hd hb hi hi0 ci
          go_wp2_with fail
          exact ⟨⟨k + 1, HLT.out, by simp, _, E.out⟩, by have := HLT.out; simp only [intOf]; omega⟩
        · obtain ⟨p, hp⟩ : ∃ p, i = p + 1 := ⟨i - 1, by omega⟩
          have d1 : decide (0 < (i : Int)) = true := decide_eq_true (by omega)
          have d1' : (0 : Int) < (i : Int) := by omega
          have d2 : decide (0 < i) = true := decide_eq_true (by omega)
          have d2' : 0 < i := by omega
          have wp : IntKind.i64.wrap ((i : Int) - 1) = (p : Int) := by have := HN.out; have := HLT.out; rw [IntKind.wrap_i64]; omega
          have p0 : (0 : Int) ≤ (p : Int) := Int.natCast_nonneg p
          have p1 : (p : Int) < (k : Int) + 1 := by omega
          have p2 : p < k + 1 := by omega
          have hpl : p < s.length := by have := HA.out.hl; omega
          obtain ⟨cp, _⟩ := own_cells ho p p2
          have cp' : cellAt (obj wr gA) p = some (.float .f64 (s.getD p 0)) := by
            rw [cp, flts_get s i y p (by omega) (by have := HA.out.hl; omega)]
          have dp : Wd (s.getD p 0) := by
            have hm : s.getD p 0 ∈ s := by rw [List.getD_eq_getElem?_getD, List.getElem?_eq_getElem hpl]; exact List.getElem_mem hpl
            have := HA.out.hp.mem_iff.1 hm
            unfold first at this
            obtain ⟨j, _, e⟩ := List.mem_map.1 this
            rw [← e]; exact HF.out j
          by_cases hlt2 : rank x < rank (s.getD p 0)
          · have dc : decide (ecmp x (s.getD p 0) < 0) = true := decide_eq_true ((ecmp_lt_iff _ _).2 hlt2)
            have dc' : ecmp x (s.getD p 0) < 0 := (ecmp_lt_iff _ _).2 hlt2
            obtain ⟨o1, o2⟩ := own_set ho hb hb.size i (.float .f64 (s.getD p 0))
            have E1 := o1
            rw [hp, shift_step s p y hpl] at E1
            rw [← hp] at E1
            have E3 : ∀ z ∈ s.drop p, rank x < rank z := fun z hz => by
              have hg : s.getD p 0 = s[p] := by rw [List.getD_eq_getElem?_getD, List.getElem?_eq_getElem hpl]; rfl
              rw [List.drop_eq_getElem_cons hpl] at hz
              rcases List.mem_cons.1 hz with e | e
              · rw [e, ← hg]; exact hlt2
              · rw [← hp] at e; exact HD.out z e
            generalize s.getD p 0 = sp at cp' dp dc dc' E1 o2
            have E1 := Lib.hid E1
            have E2 := Lib.hid o2
            have E3 := Lib.hid E3
            have HP := Lib.hid hp
            clear ho hd hb hi hi0 ci cp o1 o2 hpl hp hlt2
            go_wp2_with fail
            refine (rcmp_any _ _ _ dx dp).mono ?_
            rintro _ _ ⟨rfl, rfl⟩
            go_wp2_with fail
            exact ⟨⟨p, by have := HP.out; have := HI.out; omega, rfl, ⟨sp, E1.out⟩, E3.out, E2.out⟩, by have := HP.out; simp only [intOf]; omega⟩
          · have dc : decide (ecmp x (s.getD p 0) < 0) = false := decide_eq_false (fun e => hlt2 ((ecmp_lt_iff _ _).1 e))
            have dc' : ¬ ecmp x (s.getD p 0) < 0 := fun e => hlt2 ((ecmp_lt_iff _ _).1 e)
            have E := sort_end HA.out HI.out HO.out HB.out HB.out.size (by rw [HX.out]; exact HD.out) (fun z hz => by
              rw [hp] at hz
              rw [HX.out]
              exact srt_take HA.out.hs hpl (by omega) z hz)
            rw [HX.out] at E
            have E := Lib.hid E
            generalize s.getD p 0 = sp at cp' dp dc dc'
            clear ho hd hb hi hi0 ci cp hpl hp hlt2
            go_wp2_with fail
            refine (rcmp_any _ _ _ dx dp).mono ?_
            rintro _ _ ⟨rfl, rfl⟩
            go_wp2_with fail
            exact ⟨⟨k + 1, HLT.out, by simp, _, E.out⟩, by have := HLT.out; simp only [intOf]; omega⟩
    · have : k = n := by omega
      subst this
      have hltz : ¬ (k : Int) < (k : Int) := by omega
      clear hlt hk
      go_wp2
      go_ret
      exact ⟨_, rfl, s, HA.out⟩

/-- what is sorted begins with a least one -/
theorem SortAt.least {w w0 : World} {base n : Nat} {F : Nat → Nat} {v : Value} {s : List Nat} (h : SortAt w w0 base F n v s) (hn : 0 < n) : (∀ j, j < n → rank (s.getD 0 0) ≤ rank (F j)) ∧ ∃ j, j < n ∧ s.getD 0 0 = F j := by
  have hl : 0 < s.length := by rw [h.hl]; exact hn
  have hg : s.getD 0 0 = s[0] := by rw [List.getD_eq_getElem?_getD, List.getElem?_eq_getElem hl]; rfl
  constructor
  · intro j hj
    have hm : F j ∈ s := h.hp.mem_iff.2 (by unfold first; exact List.mem_map.2 ⟨j, List.mem_range.2 hj, rfl⟩)
    obtain ⟨i, hi, e⟩ := List.getElem_of_mem hm
    rw [hg, ← e]
    rcases Nat.eq_zero_or_pos i with h0 | h0
    · subst h0; exact Int.le_refl _
    · exact (List.pairwise_iff_getElem.1 h.hs) 0 i hl hi h0
  · have hm : s[0] ∈ s := List.getElem_mem hl
    have := h.hp.mem_iff.1 hm
    unfold first at this
    obtain ⟨j, hj, e⟩ := List.mem_map.1 this
    exact ⟨j, List.mem_range.1 hj, by rw [hg, e]⟩
set_option maxHeartbeats 1600000 in
theorem rmin_any (w : World) (v : Value) (n : Nat) (F : Nat → Nat) (h : SlF w v n F) (hF : ∀ j, Wd (F j)) (hn : n ≤ 100000) :
    Calls Try.prog 56 #[v] w fun e w' => ∃ z, e = .returned (.float .f64 z) ∧ Below w.heap.size w w' ∧ (n = 0 → z = NANW) ∧ (0 < n → (∀ j, j < n → rank z ≤ rank (F j)) ∧ ∃ j, j < n ∧ z = F j) := by
  by_cases h0 : n = 0
  · have hh := h
    obtain ⟨ao, cap, rfl⟩ := h.form
    have z1 : ((n : Int) == 0) = true := by rw [h0]; rfl
    have z2 : decide (n = 0) = true := decide_eq_true h0
    have H0 := Lib.hid h0
    clear h hh hF hn h0
    go_enter Try.func56, Try.ntmps56
    go_wp2_with (first | (go_at_call 36; refine (cmp_any _ _ _ (by assumption) (by assumption)).mono ?_; rintro _ _ ⟨rfl, rfl⟩) | (go_at_call 30; refine (same_any _ _ _ (by assumption) (by assumption)).mono ?_; rintro _ _ ⟨rfl, rfl⟩) | (go_at_call 68; refine (isNaN_any _ _).mono ?_; rintro _ _ ⟨rfl, rfl⟩) | (go_at_call 28; refine (isInf_any _ _ (by assumption) (by assumption)).mono ?_; rintro _ _ ⟨rfl, rfl⟩) | (go_at_call 40; refine (nan_any _).mono ?_; rintro _ _ ⟨rfl, rfl⟩) | (go_at_call 39; refine (infPos_any _).mono ?_; rintro _ _ ⟨rfl, rfl⟩) | (go_at_call 39; refine (infNeg_any _).mono ?_; rintro _ _ ⟨rfl, rfl⟩) | (go_at_call 46; refine (negNought_any _).mono ?_; rintro _ _ ⟨rfl, rfl⟩) | (go_at_call 43; refine (bit_any _ _).mono ?_; rintro _ _ ⟨rfl, rfl⟩))
    go_ret
    exact ⟨_, rfl, Below.refl _ _, fun _ => rfl, fun e => (by have := H0.out; omega)⟩
  · have K := Lib.hid (rsort_any w v n F h hF hn)
    obtain ⟨ao, cap, rfl⟩ := h.form
    have z1 : ((n : Int) == 0) = false := by simp; exact h0
    have z2 : decide (n = 0) = false := decide_eq_false h0
    have n0 : (0 : Int) < (n : Int) := by omega
    have n0' : 0 < n := by omega
    have HN0 := Lib.hid n0'
    clear h hF hn
    go_enter Try.func56, Try.ntmps56
    go_wp2_with fail
    refine K.out.mono ?_
    rintro _ w1 ⟨v', s, rfl, hs⟩
    have HS := Lib.hid hs
    obtain ⟨gr, capr, rfl, _, _, _, _, hc⟩ := own_at hs.ho HN0.out
    have c0 : cellAt (obj w1 gr) 0 = some (.float .f64 (s.getD 0 0)) := by
      have := hc 0 HN0.out
      rw [Nat.add_zero] at this
      rw [this]; unfold flts
      rw [List.getElem?_map, List.getElem?_eq_getElem (by rw [hs.hl]; exact HN0.out), List.getD_eq_getElem?_getD, List.getElem?_eq_getElem (by rw [hs.hl]; exact HN0.out)]; rfl
    obtain ⟨z, hz⟩ : ∃ z, s.getD 0 0 = z := ⟨_, rfl⟩
    rw [hz] at c0
    have HZ := Lib.hid hz
    clear hs hc hz
    go_wp2
    go_ret
    refine ⟨z, rfl, HS.out.hb, fun e => absurd e (by have := HN0.out; omega), fun _ => ?_⟩
    rw [← HZ.out]; exact HS.out.least HN0.out
theorem own_slF {w : World} {base n : Nat} {v : Value} {F : Nat → Nat} (h : w.ownsRow base 25 1 v n (rowF F n)) (h0 : n = 0 → v = .slice none 0 0) : SlF w v n F := by
  rcases Nat.eq_zero_or_pos n with e | e
  · exact Or.inl ⟨none, 0, h0 e, e⟩
  · obtain ⟨g, cap, hv, _, _, h1, h2, h3⟩ := own_at h e
    exact Or.inr ⟨g, 0, cap, hv, e, h1, h2, fun j hj => by rw [h3 j hj]; exact rowF_get F n j hj⟩
end Go.Proofs.Ytfhcgnkjncfeiaa
