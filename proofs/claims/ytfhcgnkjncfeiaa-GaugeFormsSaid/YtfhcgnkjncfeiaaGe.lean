/- Contracts of package nvm: Put. -/
import Derived.Test.YtfhcgnkjncfeiaaGd
import Derived.Test.YtfhcgnkjncfeiaaJ
namespace Go.Proofs.Ytfhcgnkjncfeiaa
open Go.ChangeShapes Go.WideShapes Go.RowKit Fl

theorem size_splice (c : Array Value) (off : Nat) (vs : Array Value) (h : off + vs.size ≤ c.size) : (splice c off vs).size = c.size := by
  unfold splice; simp; omega
theorem nth_splice (c : Array Value) (off : Nat) (vs : Array Value) (h : off + vs.size ≤ c.size) (i : Nat) : nth (splice c off vs) i = if off ≤ i ∧ i < off + vs.size then nth vs (i - off) else nth c i := by
  unfold nth splice
  rw [List.getElem?_toArray]
  by_cases h1 : i < off
  · rw [if_neg (by omega), List.append_assoc, List.getElem?_append_left (by simp; omega), List.getElem?_take, if_pos h1, Array.getElem?_toList]
  · by_cases h2 : i < off + vs.size
    · rw [if_pos (by omega), List.append_assoc, List.getElem?_append_right (by simp; omega), List.getElem?_append_left (by simp; omega), Array.getElem?_toList]
      congr 1; simp; omega
    · rw [if_neg (by omega), List.getElem?_append_right (by simp; omega), List.getElem?_drop, Array.getElem?_toList]
      congr 1; simp; omega
/-- the word in a cell -/
def wordOf : Option Value → Int
  | some (.int .u64 x) => x
  | _ => 0
/-- a line's words -/
def lineAt (c : Array Value) (p : Nat) : List Int := (List.range 8).map fun t => wordOf (nth c (10 * p + t))
theorem lineAt_len (c : Array Value) (p : Nat) : (lineAt c p).length = 8 := by simp [lineAt]
theorem lineAt_row {c : Array Value} {p : Nat} (hs : 10 * p + 10 ≤ c.size) (h : ∀ t, t < 8 → ∃ x, nth c (10 * p + t) = some (.int .u64 x)) : c.extract (10 * p) (10 * p + 8) = cs (lineAt c p) := by
  apply Array.ext_getElem?
  intro i
  by_cases hi : i < 8
  · obtain ⟨x, hx⟩ := h i hi
    have e1 : (cs (lineAt c p))[i]? = some (.int .u64 (wordOf (nth c (10 * p + i)))) := by
      unfold cs lineAt; simp [hi]
    rw [e1, hx]
    show _ = some (Value.int .u64 x)
    rw [← hx]
    unfold nth
    rw [Array.getElem?_extract, if_pos (by omega)]
  · rw [Array.getElem?_eq_none (by simp; omega), Array.getElem?_eq_none (by rw [cs_size, lineAt_len]; omega)]
/-- a line written -/
theorem lines_splice {w w5 : World} {Cb n : Nat} {wear lim : Nat → Int} {c : Array Value} (h : LinesIn w Cb n wear lim) (hc : obj w Cb = some (.cells c 86 (0, 0))) (p : Nat) (hp : p < n) (l : List Int) (hl : l.length = 8) (h5 : obj w5 Cb = some (.cells c 86 (0, 0))) :
    LinesIn (w5.setRow Cb (splice c (10 * p) (cs l))) Cb n wear lim := by
  obtain ⟨c', h1, h2, h3⟩ := h
  obtain rfl : c = c' := by rw [hc] at h1; simpa using h1
  have hsz : (cs l).size = 8 := by rw [cs_size, hl]
  have hle : 10 * p + (cs l).size ≤ c.size := by omega
  refine ⟨splice c (10 * p) (cs l), by rw [obj_setRow_eq, h5]; rfl, by rw [size_splice _ _ _ hle]; exact h2, fun j hj => ?_⟩
  obtain ⟨k1, k2, k3⟩ := h3 j hj
  rw [nth_splice _ _ _ hle, nth_splice _ _ _ hle, if_neg (by omega), if_neg (by omega)]
  refine ⟨k1, k2, fun t ht => ?_⟩
  rw [nth_splice _ _ _ hle]
  by_cases e : j = p
  · subst e
    rw [if_pos (by omega), show 10 * j + t - 10 * j = t by omega, cs_get l t (by omega)]
    exact ⟨_, rfl⟩
  · rw [if_neg (by omega)]; exact k3 t ht

set_option maxHeartbeats 800000 in
theorem put_none (i : Int) (l : List Int) (w : World) : Calls Try.prog 48 #[.pointer none, .int .i64 i, .agg (cs l)] w fun e w' => e = .returned (.int .i64 1) ∧ Below w.heap.size w w' := by
  go_enter Try.func48, Try.ntmps48
  go_wp2_with fail
  refine (mhas_none _ _).mono ?_
  rintro _ _ ⟨rfl, rfl⟩
  go_wp2
  go_ret
  exact ⟨rfl, (Below.refl _ _).alloc (Nat.le_refl _) _⟩
set_option maxHeartbeats 800000 in
theorem put_out {w : World} {Mb Cb n : Nat} {wear lim : Nat → Int} {writes : Int} (h : Mem w Mb Cb n wear lim writes) (i : Int) (hi : i < 0 ∨ n ≤ i) (l : List Int) : Calls Try.prog 48 #[.pointer (some ⟨Mb, 0, none⟩), .int .i64 i, .agg (cs l)] w fun e w' => e = .returned (.int .i64 1) ∧ Below w.heap.size w w' := by
  have K := mhas_in (h.alloc (.cells (cs l) 55)) i
  rw [decide_eq_false (by omega)] at K
  have K := Lib.hid K
  clear h hi
  go_enter Try.func48, Try.ntmps48
  go_wp2_with fail
  refine K.out.mono ?_
  rintro _ _ ⟨rfl, rfl⟩
  go_wp2
  go_ret
  exact ⟨rfl, (Below.refl _ _).alloc (Nat.le_refl _) _⟩

theorem below_drawn {w' w'' : World} {n : Nat} {b : Nat} (h : Below b w' w'') : Below b w' (w''.drewN n) := ⟨h.os, h.tape, h.output, h.size, h.block⟩
theorem setRow_below {B : Nat} {w w' : World} (h : Below B w w') {g : Nat} (hg : B ≤ g) (c : Array Value) : Below B w (w'.setRow g c) := by
  refine h.trans ⟨rfl, rfl, rfl, by simp, fun k hk => ?_⟩
  exact setRow_other w' g k c (by omega)
theorem keepEq {w w' : World} (hb : Below w.heap.size w w') {g : Nat} {o : Obj} (h : obj w g = some o) : obj w' g = obj w g := obj_below hb (lt_of_obj h)
/-! ### a line that there is -/
def putL (P : Value) (lo l : List Int) : List (Nat × Nat × Value) :=
  [(0, 46, P), (1, 47, P), (2, 48, P), (3, 49, P), (4, 50, .agg (cs lo)), (5, 51, .agg (cs l)), (6, 52, .int .i64 (-1)), (7, 53, .agg (cs (mix lo l (-1)))), (8, 54, P), (9, 55, P)]
def putO : List (Nat × Nat) := [(10, 0), (10, 1), (10, 2), (10, 3), (10, 4), (10, 5), (10, 6), (10, 7), (10, 8), (10, 9), (9, 8), (8, 0), (7, 4), (7, 5), (7, 6), (4, 3), (3, 2), (2, 1)]
/-- what holds whichever operations have run -/
def PutI (w3 : World) (P : Value) (lo l : List Int) (Cb : Nat) (c' : Array Value) (T0 : Nat → Value) (d : Nat → Bool) (T : Nat → Value) (w : World) : Prop :=
  Facts (putL P lo l) d T ∧ Ord putO d ∧ (∀ j, j < 46 ∨ 55 < j → T j = T0 j) ∧ (d 10 = false → Below w3.heap.size w3 w) ∧ (d 10 = true → ∃ w5, Below w3.heap.size w3 w5 ∧ w = w5.setRow Cb c')
theorem PutI.plain {w3 : World} {P : Value} {lo l : List Int} {Cb : Nat} {c' : Array Value} {T0 : Nat → Value} {d : Nat → Bool} {T : Nat → Value} {w w' : World} (h : PutI w3 P lo l Cb c' T0 d T w) (i s : Nat) (v : Value) (hi : i < 10) (hs : 46 ≤ s ∧ s ≤ 55) (hd : d i = false)
    (hl : ∀ x ∈ putL P lo l, if x.1 = i then x.2.1 = s ∧ x.2.2 = v else x.2.1 ≠ s) (ho : ∀ x ∈ putO, x.1 = i → d x.2 = true) (hb : Below w.heap.size w w') : PutI w3 P lo l Cb c' T0 (also d i) (upd T s v) w' := by
  obtain ⟨h1, h2, h3, h4, h5⟩ := h
  have o10 : d 10 = false := h2.not (x := 10) (y := i) (by
    have : i = 0 ∨ i = 1 ∨ i = 2 ∨ i = 3 ∨ i = 4 ∨ i = 5 ∨ i = 6 ∨ i = 7 ∨ i = 8 ∨ i = 9 := by omega
    rcases this with rfl | rfl | rfl | rfl | rfl | rfl | rfl | rfl | rfl | rfl <;> simp [putO]) hd
  have e : also d i 10 = d 10 := by unfold also; rw [if_neg (by omega)]
  refine ⟨h1.step i s v hl, h2.step i ho, fun j hj => by unfold upd; rw [if_neg (by omega)]; exact h3 j hj, fun _ => ?_, fun e2 => ?_⟩
  · have := h4 o10
    exact this.trans (hb.mono this.size)
  · rw [e, o10] at e2; cases e2

set_option maxRecDepth 100000 in
set_option maxHeartbeats 6400000 in
theorem put_in {w : World} {Mb Cb n base : Nat} {wear lim : Nat → Int} {writes : Int} (h : Mem w Mb Cb n wear lim writes) (j : Nat) (hj : j < n) (hlim : lim j < 0) (l : List Int) (hl : l.length = 8) (hw1 : IntKind.i64.wrap (writes + 1) = writes + 1) (hw2 : IntKind.i64.wrap (wear j + 1) = wear j + 1)
    (b1 : base ≤ Mb) (b2 : base ≤ Cb) (b3 : base ≤ w.heap.size) :
    Calls Try.prog 48 #[.pointer (some ⟨Mb, 0, none⟩), .int .i64 j, .agg (cs l)] w fun e w' => e = .returned (.int .i64 0) ∧ Mem w' Mb Cb n (fun x => if x = j then wear j + 1 else wear x) lim (writes + 1) ∧ Below base w w' ∧ (∀ b, b < w.heap.size → b ≠ Mb → b ≠ Cb → obj w' b = obj w b) := by
  have hA := h.alloc (.cells (cs l) 55)
  have K := mhas_in hA (j : Int)
  rw [decide_eq_true (by omega)] at K
  have K := Lib.hid K
  have KW := Lib.hid (write_in hA hw1)
  have c39 := hA.c39
  have j0 : (0 : Int) ≤ (j : Int) := by omega
  have j1 : (j : Int) < (n : Int) := by omega
  have mM := lt_of_obj h.hM
  have mC : Cb < w.heap.size := by
    obtain ⟨c, h1, _⟩ := h.hL
    exact lt_of_obj h1
  -- behind the count of writes
  have hm2 := hA.count (writes + 1)
  have hL2 : obj ((w.alloc (.cells (cs l) 55)).setCell ⟨Mb, 36, none⟩ (.int .i64 (writes + 1))) w.heap.size = some (.cells (cs l) 55) := (obj_setCell_ne _ _ _ w.heap.size (by show w.heap.size ≠ Mb; omega)).trans (newA w _)
  have hb2 : Below base w ((w.alloc (.cells (cs l) 55)).setCell ⟨Mb, 36, none⟩ (.int .i64 (writes + 1))) := Below.setCell ((Below.refl _ _).alloc b3 _) b1 _
  have hf2 : ∀ b, b < w.heap.size → b ≠ Mb → b ≠ Cb → obj ((w.alloc (.cells (cs l) 55)).setCell ⟨Mb, 36, none⟩ (.int .i64 (writes + 1))) b = obj w b := fun b h1 h2 _ => (obj_setCell_ne _ _ _ b h2).trans (obj_alloc_past w _ b h1)
  have HM2 := Lib.hid hm2
  have HL2 := Lib.hid hL2
  have HB2 := Lib.hid hb2
  have HF2 := Lib.hid hf2
  have HJ := Lib.hid hj
  have Hl := Lib.hid hl
  have HW2 := Lib.hid hw2
  have HM1 := Lib.hid (show Mb < w.heap.size ∧ Cb < w.heap.size ∧ base ≤ Cb from ⟨mM, mC, b2⟩)
  have dl : decide (lim j ≥ 0) = false := decide_eq_false (by omega)
  clear h hA hj hlim hl hw1 hw2 b1 b2 b3 mM mC hm2 hL2 hb2 hf2
  go_enter Try.func48, Try.ntmps48
  go_wp2_with fail
  refine K.out.mono ?_
  rintro _ _ ⟨rfl, rfl⟩
  go_wp2_with fail
  refine KW.out.mono ?_
  rintro _ _ ⟨rfl, rfl⟩
  generalize (w.alloc (.cells (cs l) 55)).setCell ⟨Mb, 36, none⟩ (.int .i64 (writes + 1)) = w2 at HM2 HL2 HB2 HF2 ⊢
  clear K KW c39
  have c0 := HM2.out.c0
  obtain ⟨c8, c9, _, _⟩ := HM2.out.hL.cells j HJ.out
  rw [Nat.mul_comm 10 j] at c8 c9
  go_wp2_with fail
  go_quiet (fail)
  have HM3 : Hid (Mem (w2.drewN nq) Mb Cb n wear lim (writes + 1)) := Lib.hid ⟨HM2.out.hM, HM2.out.hL, HM2.out.ne⟩
  have HL3 : Hid (obj (w2.drewN nq) w.heap.size = some (.cells (cs l) 55)) := Lib.hid HL2.out
  have HB3 : Hid (Below base w (w2.drewN nq)) := Lib.hid (below_drawn HB2.out)
  have HF3 : Hid (∀ b, b < w.heap.size → b ≠ Mb → b ≠ Cb → obj (w2.drewN nq) b = obj w b) := Lib.hid HF2.out
  generalize w2.drewN nq = w3 at HM3 HL3 HB3 HF3 ⊢
  clear HM2 HL2 HB2 HF2 c0 c8 c9
  obtain ⟨c, hc, hcs, hcj⟩ := HM3.out.hL
  have hrow : rowAt (obj w3 Cb) (j * 10) 8 = some (cs (lineAt c j)) := by
    rw [hc, rowAt_some _ _ _ _ _ (by have := HJ.out; omega), Nat.mul_comm j 10, lineAt_row (by have := HJ.out; omega) (hcj j HJ.out).2.2]
  have hsp : spliceAt (obj w3 Cb) (j * 10) (cs (mix (lineAt c j) l (-1))) = some (splice c (10 * j) (cs (mix (lineAt c j) l (-1)))) := by
    rw [hc, spliceAt_some _ _ _ _ (by rw [cs_size, mix_len]; have := HJ.out; omega), Nat.mul_comm]
  have HROW := Lib.hid hrow
  have HSP := Lib.hid hsp
  have HC := Lib.hid hc
  have hl0 := lineAt_len c j
  generalize lineAt c j = lo at HROW HSP hl0
  have HL0 := Lib.hid hl0
  clear hc hcs hcj hrow hsp hl0
  go_wp2_with fail
  refine wp_region_slots 66 (fun T0 d T w' => PutI w3 (.pointer (some ⟨Cb, j * 10, none⟩)) lo l Cb (splice c (10 * j) (cs (mix lo l (-1)))) T0 d T w' ∧ T0 5 = .pointer (some ⟨w.heap.size, 0, none⟩) ∧ T0 7 = .int .i64 (-1) ∧ T0 8 = .pointer (some ⟨Cb, j * 10, none⟩))
    (by kernel_rfl) (by kernel_rfl) rfl rfl ?_ ?_ ?_
  · refine ⟨⟨Facts.start (by simp [putL]), Ord.start (by simp [putO]), fun _ _ => rfl, fun _ => (Below.refl _ _).drew, fun e => (by cases e)⟩, rfl, rfl, rfl⟩
  · intro T0
    refine ⟨?_, ?_, ?_, ?_, ?_, ?_, ?_, ?_, ?_, ?_, ?_, trivial⟩
    · refine keeps_of' rfl ?_
      rintro d T w1 hd ha ⟨hG, h5, h7, h8⟩ K hK
      have e := (hG.2.2.1 8 (by decide)).trans h8
      go_simp
      exact hK _ _ ⟨hG.plain 0 46 _ (by decide) (by decide) hd (by simp [putL]) (by simp [putO]) (Below.refl _ _), h5, h7, h8⟩
    · refine keeps_of' rfl ?_
      rintro d T w1 hd ha ⟨hG, h5, h7, h8⟩ K hK
      have e := (hG.2.2.1 8 (by decide)).trans h8
      go_simp
      exact hK _ _ ⟨hG.plain 1 47 _ (by decide) (by decide) hd (by simp [putL]) (by simp [putO]) (Below.refl _ _), h5, h7, h8⟩
    · refine keeps_of' rfl ?_
      rintro d T w1 hd ha ⟨hG, h5, h7, h8⟩ K hK
      have e := hG.1 (1, 47, .pointer (some ⟨Cb, j * 10, none⟩)) (by simp [putL]) (ha 1 (by decide))
      simp only at e
      go_simp
      exact hK _ _ ⟨hG.plain 2 48 _ (by decide) (by decide) hd (by simp [putL]) (by simp [putO, ha 1 (by decide)]) (Below.refl _ _), h5, h7, h8⟩
    · refine keeps_of' rfl ?_
      rintro d T w1 hd ha ⟨hG, h5, h7, h8⟩ K hK
      have e := hG.1 (2, 48, .pointer (some ⟨Cb, j * 10, none⟩)) (by simp [putL]) (ha 2 (by decide))
      simp only at e
      go_simp
      exact hK _ _ ⟨hG.plain 3 49 _ (by decide) (by decide) hd (by simp [putL]) (by simp [putO, ha 2 (by decide)]) (Below.refl _ _), h5, h7, h8⟩
    · refine keeps_of' rfl ?_
      rintro d T w1 hd ha ⟨hG, h5, h7, h8⟩ K hK
      have e := hG.1 (3, 49, .pointer (some ⟨Cb, j * 10, none⟩)) (by simp [putL]) (ha 3 (by decide))
      simp only at e
      have o10 := hG.2.1.not (x := 10) (y := 4) (by simp [putO]) hd
      have q := HROW.out
      rw [← keepEq (hG.2.2.2.1 o10) HC.out] at q
      go_simp
      exact hK _ _ ⟨hG.plain 4 50 _ (by decide) (by decide) hd (by simp [putL]) (by simp [putO, ha 3 (by decide)]) (Below.refl _ _), h5, h7, h8⟩
    · refine keeps_of' rfl ?_
      rintro d T w1 hd ha ⟨hG, h5, h7, h8⟩ K hK
      have e := (hG.2.2.1 5 (by decide)).trans h5
      have o10 := hG.2.1.not (x := 10) (y := 5) (by simp [putO]) hd
      have q := keep (hG.2.2.2.1 o10) HL3.out
      have hl := Hl.out
      go_simp
      exact hK _ _ ⟨hG.plain 5 51 _ (by decide) (by decide) hd (by simp [putL]) (by simp [putO]) (Below.refl _ _), h5, h7, h8⟩
    · refine keeps_of' rfl ?_
      rintro d T w1 hd ha ⟨hG, h5, h7, h8⟩ K hK
      have e := (hG.2.2.1 7 (by decide)).trans h7
      go_simp
      exact hK _ _ ⟨hG.plain 6 52 _ (by decide) (by decide) hd (by simp [putL]) (by simp [putO]) (Below.refl _ _), h5, h7, h8⟩
    · refine keeps_of' rfl ?_
      rintro d T w1 hd ha ⟨hG, h5, h7, h8⟩ K hK
      have e1 := hG.1 (4, 50, .agg (cs lo)) (by simp [putL]) (ha 4 (by decide))
      have e2 := hG.1 (5, 51, .agg (cs l)) (by simp [putL]) (ha 5 (by decide))
      have e3 := hG.1 (6, 52, .int .i64 (-1)) (by simp [putL]) (ha 6 (by decide))
      simp only at e1 e2 e3
      go_simp
      refine (mix_any lo l (-1) _ HL0.out Hl.out).mono ?_
      rintro _ w9 ⟨rfl, hb⟩
      show K ((actOf 66 T).put (some 53) _) w9
      rw [actOf_put 66 T 53 _ (by decide)]
      exact hK _ _ ⟨hG.plain 7 53 _ (by decide) (by decide) hd (by simp [putL]) (by simp [putO, ha 4 (by decide), ha 5 (by decide), ha 6 (by decide)]) hb, h5, h7, h8⟩
    · refine keeps_of' rfl ?_
      rintro d T w1 hd ha ⟨hG, h5, h7, h8⟩ K hK
      have e := hG.1 (0, 46, .pointer (some ⟨Cb, j * 10, none⟩)) (by simp [putL]) (ha 0 (by decide))
      simp only at e
      go_simp
      exact hK _ _ ⟨hG.plain 8 54 _ (by decide) (by decide) hd (by simp [putL]) (by simp [putO, ha 0 (by decide)]) (Below.refl _ _), h5, h7, h8⟩
    · refine keeps_of' rfl ?_
      rintro d T w1 hd ha ⟨hG, h5, h7, h8⟩ K hK
      have e := hG.1 (8, 54, .pointer (some ⟨Cb, j * 10, none⟩)) (by simp [putL]) (ha 8 (by decide))
      simp only at e
      go_simp
      exact hK _ _ ⟨hG.plain 9 55 _ (by decide) (by decide) hd (by simp [putL]) (by simp [putO, ha 8 (by decide)]) (Below.refl _ _), h5, h7, h8⟩
    · refine keeps_of' rfl ?_
      rintro d T w1 hd ha ⟨⟨hF, hO, hT, hW, _⟩, h5, h7, h8⟩ K hK
      have e1 := hF (9, 55, .pointer (some ⟨Cb, j * 10, none⟩)) (by simp [putL]) (ha 9 (by decide))
      have e2 := hF (7, 53, .agg (cs (mix lo l (-1)))) (by simp [putL]) (ha 7 (by decide))
      simp only at e1 e2
      have q := HSP.out
      have hb := hW hd
      rw [← keepEq hb HC.out] at q
      have a0 := ha 9 (by decide)
      have a1 := ha 7 (by decide)
      go_simp
      have a8 := hO (9, 8) (by simp [putO]) a0
      have a00 := hO (8, 0) (by simp [putO]) a8
      have a4 := hO (7, 4) (by simp [putO]) a1
      have a5 := hO (7, 5) (by simp [putO]) a1
      have a6 := hO (7, 6) (by simp [putO]) a1
      have a3 := hO (4, 3) (by simp [putO]) a4
      have a2 := hO (3, 2) (by simp [putO]) a3
      have a11 := hO (2, 1) (by simp [putO]) a2
      simp only at a8 a00 a4 a5 a6 a3 a2 a11
      refine hK _ _ ⟨⟨hF.run 10 (by simp [putL]), hO.step 10 (by simp [putO, a0, a1, a8, a00, a4, a5, a6, a3, a2, a11]), hT, fun e => ?_, fun _ => ⟨w1, hb, rfl⟩⟩, h5, h7, h8⟩
      simp [also] at e
  · rintro T w4 ⟨⟨_, _, hT, _, hW⟩, h5, h7, h8⟩
    have e : actOf 66 T = ⟨#[T 0, T 1, T 2, T 3, T 4, T 5, T 6, T 7, T 8, T 9, T 10, T 11, T 12, T 13, T 14, T 15, T 16, T 17, T 18, T 19, T 20, T 21, T 22, T 23, T 24, T 25, T 26, T 27, T 28, T 29, T 30, T 31, T 32, T 33, T 34, T 35, T 36, T 37, T 38, T 39, T 40, T 41, T 42, T 43, T 44, T 45, T 46, T 47, T 48, T 49, T 50, T 51, T 52, T 53, T 54, T 55, T 56, T 57, T 58, T 59, T 60, T 61, T 62, T 63, T 64, T 65], []⟩ := rfl
    rw [e]
    have t0 : T 0 = .pointer (some ⟨Mb, 0, none⟩) := hT 0 (by decide)
    have t8 : T 8 = .pointer (some ⟨Cb, j * 10, none⟩) := (hT 8 (by decide)).trans h8
    have t9 : T 9 = .bool false := hT 9 (by decide)
    rw [t0, t8, t9]
    obtain ⟨w5, hb5, rfl⟩ := hW rfl
    have hM5 : obj (w5.setRow Cb (splice c (10 * j) (cs (mix lo l (-1))))) Mb = some (.cells (memC Cb n (writes + 1)) 84 (0, 0)) := (obj_setRow_ne w5 _ _ Mb HM3.out.ne).trans (keep hb5 HM3.out.hM)
    have hL5 := lines_splice HM3.out.hL HC.out j HJ.out (mix lo l (-1)) (mix_len ..) (keep hb5 HC.out)
    have hB5 : Below base w (w5.setRow Cb (splice c (10 * j) (cs (mix lo l (-1))))) := by
      have h1 := HB3.out.trans (hb5.mono (by have := HB3.out.size; have := HM1.out; omega))
      exact setRow_below h1 HM1.out.2.2 _
    have hF5 : ∀ b, b < w.heap.size → b ≠ Mb → b ≠ Cb → obj (w5.setRow Cb (splice c (10 * j) (cs (mix lo l (-1))))) b = obj w b := fun b h1 h2 h3 =>
      (obj_setRow_ne w5 _ _ b h3).trans ((obj_below hb5 (by have := HB3.out.size; omega)).trans (HF3.out b h1 h2 h3))
    generalize w5.setRow Cb (splice c (10 * j) (cs (mix lo l (-1)))) = w6 at hM5 hL5 hB5 hF5 ⊢
    have HM6 : Hid (Mem w6 Mb Cb n wear lim (writes + 1)) := Lib.hid ⟨hM5, hL5, HM3.out.ne⟩
    have HB6 := Lib.hid hB5
    have HF6 := Lib.hid hF5
    clear t0 t8 t9 hT hW h5 h7 h8 hM5 hL5 hB5 hF5 hb5 HM3 HL3 HB3 HF3 HROW HSP HC
    obtain ⟨c8, _, i8, _⟩ := HM6.out.hL.cells j HJ.out
    have i8 := i8 (10 * j + 8)
    rw [Nat.mul_comm 10 j] at c8 i8
    obtain ⟨a, ha⟩ : ∃ a, wear j + 1 = a := ⟨_, rfl⟩
    have hw2 : IntKind.i64.wrap (wear j + 1) = a := by rw [← ha]; exact HW2.out
    have HA := Lib.hid ha
    clear ha
    have hm7 : Mem (w6.setCell ⟨Cb, j * 10 + 8, none⟩ (.int .i64 a)) Mb Cb n (fun x => if x = j then a else wear x) lim (writes + 1) := by
      have h := HM6.out.hL.setWear j HJ.out a
      rw [Nat.mul_comm 10 j] at h
      exact ⟨(obj_setCell_ne w6 _ _ _ HM6.out.ne).trans HM6.out.hM, h, HM6.out.ne⟩
    have hb7 : Below base w (w6.setCell ⟨Cb, j * 10 + 8, none⟩ (.int .i64 a)) := Below.setCell HB6.out HM1.out.2.2 _
    have hf7 : ∀ b, b < w.heap.size → b ≠ Mb → b ≠ Cb → obj (w6.setCell ⟨Cb, j * 10 + 8, none⟩ (.int .i64 a)) b = obj w b := fun b h1 h2 h3 => (obj_setCell_ne w6 _ _ b h3).trans (HF6.out b h1 h2 h3)
    have HM7 := Lib.hid hm7
    have HB7 := Lib.hid hb7
    have HF7 := Lib.hid hf7
    have KT := Lib.hid (told_in hm7)
    clear hm7 hb7 hf7
    go_wp2_with fail
    refine KT.out.mono ?_
    rintro _ _ ⟨rfl, rfl⟩
    go_wp2
    go_ret
    exact ⟨rfl, by rw [HA.out]; exact HM7.out, HB7.out, HF7.out⟩
end Go.Proofs.Ytfhcgnkjncfeiaa
