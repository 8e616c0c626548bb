/- Contracts and laws of their own, used by the claim's theorem: nvm.New. -/
import Derived.Test.YtphmfaddgpjndaaGreatPk1
import Derived.Laws.MakeOwn
import Derived.Deep.AppendLies
import Derived.OwnWalk
import Derived.Maps.OwnOps
import Derived.Maps.Views
namespace Go.Proofs.YtphmfaddgpjndaaGreat
open Go.ChangeShapes Go.WideShapes Go.RowKit

def zCell : Value := .agg #[.int .u64 0, .int .u64 0, .int .u64 0, .int .u64 0, .int .u64 0, .int .u64 0, .int .u64 0, .int .u64 0, .int .i64 0, .int .i64 0]
theorem info103 : (Tryz.prog.info? 103).map (fun i => (i.zero, i.size, i.bytes)) = some (some zCell, 10, 80) := by kernel_rfl
/-- the lines while their limits are laid -/
def LinesL (w : World) (Cb n : Nat) (lim : Nat → Int) : Prop :=
  ∃ c : Array Value, obj w Cb = some (.cells c 103 (0, 0)) ∧ c.size = 10 * n ∧ ∀ j, j < n → WordsAt c (10 * j) [0, 0, 0, 0, 0, 0, 0, 0] ∧ nth c (10 * j + 8) = some (.int .i64 0) ∧ nth c (10 * j + 9) = some (.int .i64 (lim j))
theorem LinesL.same {w w' : World} {Cb n : Nat} {lim : Nat → Int} (h : LinesL w Cb n lim) (e : obj w' Cb = obj w Cb) : LinesL w' Cb n lim := by
  obtain ⟨c, h1, h2⟩ := h
  exact ⟨c, e.trans h1, h2⟩
theorem LinesL.set {w : World} {Cb n : Nat} {lim : Nat → Int} (h : LinesL w Cb n lim) (p : Nat) (hp : p < n) (a : Int) : LinesL (w.setCell ⟨Cb, 10 * p + 9, none⟩ (.int .i64 a)) Cb n (updF lim p a) := by
  obtain ⟨c, h1, h2, h3⟩ := h
  refine ⟨c.setIfInBounds (10 * p + 9) (.int .i64 a), by rw [obj_setCell_eq, h1]; rfl, by simpa using h2, fun k hk => ?_⟩
  obtain ⟨k2, k3, k4⟩ := h3 k hk
  refine ⟨fun t ht => by rw [nth_set (by omega), if_neg (by simp at ht; omega)]; exact k2 t ht, by rw [nth_set (by omega), if_neg (by omega)]; exact k3, ?_⟩
  rw [nth_set (by omega)]
  by_cases e : k = p
  · subst e; rw [if_pos rfl, updF_same]
  · rw [if_neg (by omega), updF_ne _ _ _ e]; exact k4
theorem madeCells_at {w w' : World} {size n : Nat} {t : TypeId} {z : Array Value} (h2 : w'.ownsRow w.heap.size t size (.slice (some ⟨w.heap.size, 0, none⟩) n n) n (madeCells z (n * size)).toList) (h0 : 0 < n) (hz : z.size = size) (hs : 0 < size) :
    ∃ cur : Array Value, obj w' w.heap.size = some (.cells cur t (0, 0)) ∧ cur.size = n * size ∧ ∀ x, x < n * size → nth cur x = some (z[x % size]!) := by
  rcases h2.2 with ⟨e, _⟩ | ⟨g, cap, cur, hv, _, hg, _, _, hsz, ht⟩
  · cases e
  · obtain ⟨rfl, rfl⟩ : w.heap.size = g ∧ n = cap := by simpa using hv
    have hcur : cur.toList = (madeCells z (n * size)).toList := by
      rw [← ht, List.take_of_length_le (by simp; omega)]
    refine ⟨cur, hg, by omega, fun x hx => ?_⟩
    unfold nth
    rw [← Array.getElem?_toList, hcur, Array.getElem?_toList]
    unfold madeCells
    simp only [Array.getElem?_map, Array.getElem?_range, if_pos hx, Option.map_some]
    rw [hz]
/-- lines as make makes them -/
theorem make_lines (n : Nat) (w : World) (h0 : 0 < n) (hn : n ≤ 200) : ∃ w', (Instr.makeSlice 98 (.int .i64 (n : Int)) (.int .i64 (n : Int))).run Tryz.prog w = .ok (.slice (some ⟨w.heap.size, 0, none⟩) n n) w' ∧
    LinesL w' w.heap.size n (fun _ => 0) ∧ Below w.heap.size w w' := by
  obtain ⟨i0, hi0, hz0, hz1, hz2⟩ := info_parts info103
  obtain ⟨w', h1, h2, h3⟩ := run_make_full (P := Tryz.prog) w w.heap.size 98 103 i0 _ 10 Tryz.underlying98 hi0 hz0 hz1 .i64 .i64 n (by rw [hz2]; omega) (by unfold maxLen; omega) (Nat.le_refl _)
  refine ⟨w', h1, ?_, (Below.refl _ _).grown h3 (Nat.le_refl _) (fun _ h => by cases h)⟩
  obtain ⟨cur, hg, hsz, hat⟩ := madeCells_at h2 h0 rfl (by decide)
  refine ⟨cur, hg, by omega, fun j hj => ⟨fun t ht => ?_, ?_, ?_⟩⟩
  · have ht : t < 8 := ht
    rw [hat _ (by omega), show (10 * j + t) % 10 = t by omega]
    have : t = 0 ∨ t = 1 ∨ t = 2 ∨ t = 3 ∨ t = 4 ∨ t = 5 ∨ t = 6 ∨ t = 7 := by omega
    rcases this with rfl | rfl | rfl | rfl | rfl | rfl | rfl | rfl <;> rfl
  · rw [hat _ (by omega), show (10 * j + 8) % 10 = 8 by omega]; rfl
  · rw [hat _ (by omega), show (10 * j + 9) % 10 = 9 by omega]; rfl
/-- a new memory -/
def MS.new (n : Nat) : MS := { n := n, line := fun _ => [0, 0, 0, 0, 0, 0, 0, 0], wear := fun _ => 0, reg := fun _ => 0, writes := 0, cut := -1, mask := 0, down := false }
def limK (k j : Nat) : Int := if j < k then -1 else 0
def u0 : Value := .int .u64 0
def memC (Cb n : Nat) : Array Value :=
  #[.slice (some ⟨Cb, 0, none⟩) n n, u0, u0, u0, u0, u0, u0, u0, u0, u0, u0, u0, u0, u0, u0, u0, u0, u0, u0, u0, u0, u0, u0, u0, u0, u0, u0, u0, u0, u0, u0, u0, u0, u0, u0, u0, .int .i64 0, .int .i64 (-1), .int .i64 0, .bool false]
set_option maxRecDepth 10000 in
theorem memC_own {w : World} {Mb Cb n : Nat} (h : obj w Mb = some (.cells (memC Cb n) 101 (0, 0))) : OwnIn w Mb Cb (MS.new n) := by
  refine ⟨memC Cb n, h, by unfold memC; rfl, rfl, fun i hi => ?_, rfl, rfl, rfl, rfl⟩
  have : i = 0 ∨ i = 1 ∨ i = 2 ∨ i = 3 ∨ i = 4 ∨ i = 5 ∨ i = 6 ∨ i = 7 ∨ i = 8 ∨ i = 9 ∨ i = 10 ∨ i = 11 ∨ i = 12 ∨ i = 13 ∨ i = 14 ∨ i = 15 ∨ i = 16 ∨ i = 17 ∨ i = 18 ∨ i = 19 ∨ i = 20 ∨ i = 21 ∨ i = 22 ∨ i = 23 ∨ i = 24 ∨ i = 25 ∨ i = 26 ∨ i = 27 ∨ i = 28 ∨ i = 29 ∨ i = 30 ∨ i = 31 ∨ i = 32 ∨ i = 33 ∨ i = 34 := by omega
  rcases this with rfl | rfl | rfl | rfl | rfl | rfl | rfl | rfl | rfl | rfl | rfl | rfl | rfl | rfl | rfl | rfl | rfl | rfl | rfl | rfl | rfl | rfl | rfl | rfl | rfl | rfl | rfl | rfl | rfl | rfl | rfl | rfl | rfl | rfl | rfl <;> rfl
set_option maxRecDepth 10000 in
set_option maxHeartbeats 3200000 in
theorem mnew_any (n : Nat) (w : World) (h : 1 ≤ n ∧ n ≤ 200) : Calls Tryz.prog 27 #[.int .i64 n, .slice none 0 0] w fun e w' => ∃ Mb Cb, e = .returned (.pointer (some ⟨Mb, 0, none⟩)) ∧ MemAt w' Mb Cb (MS.new n) ∧ w.heap.size ≤ Mb ∧ w.heap.size ≤ Cb ∧ Below w.heap.size w w' := by
  have d1 : decide ((n : Int) < 1) = false := decide_eq_false (by omega)
  have d2 : decide (200 < (n : Int)) = false := decide_eq_false (by omega)
  obtain ⟨w1, hrun, hL, hB⟩ := make_lines n w h.1 h.2
  have hC : w.heap.size < w1.heap.size := by
    obtain ⟨c, h1, _⟩ := hL
    exact lt_of_obj h1
  have HH := Lib.hid h
  have HL := Lib.hid hL
  have HB := Lib.hid hB
  have HC := Lib.hid hC
  clear h hL hB hC
  go_enter Tryz.func27, Tryz.ntmps27
  go_wp2_with fail
  go_loopw [22] (fun i wr => ∃ k : Nat, k ≤ n ∧ i = .int .i64 k ∧ obj wr w1.heap.size = some (.cells (memC w.heap.size n) 101 (0, 0)) ∧ LinesL wr w.heap.size n (limK k) ∧ Below w.heap.size w wr) (fun i _ => n - (intOf i).toNat)
  case atStart =>
    obtain ⟨c, h1, h2⟩ := HL.out
    exact ⟨0, by omega, rfl, newA w1 _, ⟨c, keepA _ h1, h2⟩, HB.out.alloc HB.out.size _⟩
  case round =>
    obtain ⟨k, hk, rfl, hm, hl, hb⟩ := hrel
    have HM := Lib.hid hm
    have HLr := Lib.hid hl
    have HBr := Lib.hid hb
    by_cases hlt : k < n
    · have hltz : (k : Int) < (n : Int) := by omega
      have k0 : (0 : Int) ≤ (k : Int) := by omega
      have kn : ¬ (k : Int) < 0 := by omega
      have wk : IntKind.i64.wrap ((k : Int) + 1) = (k : Int) + 1 := by have := HH.out; rw [IntKind.wrap_i64]; omega
      have c0 : cellAt (obj wr w1.heap.size) 0 = some (.slice (some ⟨w.heap.size, 0, none⟩) n n) := by rw [hm]; rfl
      have c9 : cellAt (obj wr w.heap.size) (10 * k + 9) = some (.int .i64 (limK k k)) := by obtain ⟨c, h1, _, h2⟩ := hl; rw [h1]; exact (h2 k hlt).2.2
      have i9 : iceAt (obj wr w.heap.size) (10 * k + 9) = false := by obtain ⟨c, h1, _⟩ := hl; rw [h1]; exact iceAt_some ..
      rw [Nat.mul_comm 10 k] at c9 i9
      have HLT := Lib.hid hlt
      clear hm hl hb hk hlt
      go_wp2_with fail
      have hl2 : LinesL (wr.setCell ⟨w.heap.size, k * 10 + 9, none⟩ (.int .i64 (-1))) w.heap.size n (limK (k + 1)) := by
        obtain ⟨c, h1, h2, h3⟩ := HLr.out.set k HLT.out (-1)
        rw [Nat.mul_comm 10 k] at h1
        refine ⟨c, h1, h2, fun j hj => ⟨(h3 j hj).1, (h3 j hj).2.1, ?_⟩⟩
        rw [(h3 j hj).2.2]
        unfold limK updF
        by_cases e : j = k
        · subst e; simp
        · rw [if_neg e]
          dsimp only
          by_cases e2 : j < k
          · rw [if_pos e2, if_pos (by omega)]
          · rw [if_neg e2, if_neg (by omega)]
      exact ⟨⟨k + 1, HLT.out, by simp, (obj_setCell_ne wr _ _ _ (by have := HC.out; show w1.heap.size ≠ w.heap.size; omega)).trans HM.out, hl2, Below.setCell HBr.out (Nat.le_refl _) _⟩, by have := HLT.out; simp only [intOf]; omega⟩
    · have : k = n := by omega
      subst this
      have hltz : ¬ (k : Int) < (k : Int) := by omega
      clear hm hl hb hk hlt
      go_wp2
      go_ret
      refine ⟨w1.heap.size, rfl, w.heap.size, ⟨memC_own HM.out, ?_, by have := HC.out; omega⟩, by have := HC.out; omega, Nat.le_refl _, HBr.out⟩
      obtain ⟨c, h1, h2, h3⟩ := HLr.out
      refine ⟨c, h1, h2, fun j hj => ⟨rfl, (h3 j hj).1, (h3 j hj).2.1, ?_⟩⟩
      rw [(h3 j hj).2.2]
      unfold limK
      rw [if_pos (show j < k from hj)]
end Go.Proofs.YtphmfaddgpjndaaGreat

/- Slices: what they hold, read and appended to. -/
namespace Go.Proofs.YtphmfaddgpjndaaGreat
open Go.ChangeShapes Go.WideShapes Go.RowKit

/-- the cells of n elements -/
def flatF (size : Nat) (F : Nat → Nat → Value) (n : Nat) : List Value := (List.range n).flatMap fun i => (List.range size).map (F i)
theorem flatF_zero (size : Nat) (F : Nat → Nat → Value) : flatF size F 0 = [] := rfl
theorem flatF_succ (size : Nat) (F : Nat → Nat → Value) (n : Nat) : flatF size F (n + 1) = flatF size F n ++ (List.range size).map (F n) := by
  unfold flatF; rw [List.range_succ]; simp
theorem flatF_len (size : Nat) (F : Nat → Nat → Value) (n : Nat) : (flatF size F n).length = n * size := by
  induction n with
  | zero => simp [flatF]
  | succ n ih => rw [flatF_succ, List.length_append, ih]; simp [Nat.succ_mul]
theorem flatF_get (size : Nat) (F : Nat → Nat → Value) (n : Nat) : ∀ i t, i < n → t < size → (flatF size F n)[i * size + t]? = some (F i t) := by
  induction n with
  | zero => intro i t h; omega
  | succ n ih =>
    intro i t hi ht
    rw [flatF_succ]
    by_cases e : i = n
    · subst e
      rw [List.getElem?_append_right (by rw [flatF_len]; omega), flatF_len]
      simp [ht]
    · have h1 : i * size + t < n * size := by
        have : (i + 1) * size ≤ n * size := Nat.mul_le_mul_right _ (by omega)
        rw [Nat.succ_mul] at this; omega
      rw [List.getElem?_append_left (by rw [flatF_len]; exact h1)]
      exact ih i t (by omega) ht
theorem flatF_congr {size n : Nat} {F G : Nat → Nat → Value} (h : ∀ i, i < n → ∀ t, t < size → F i t = G i t) : flatF size F n = flatF size G n := by
  induction n with
  | zero => rfl
  | succ n ih =>
    rw [flatF_succ, flatF_succ, ih (fun i hi => h i (by omega))]
    congr 1
    apply List.map_congr_left
    intro t ht
    exact h n (by omega) t (by simpa using ht)

/-- a slice of n elements of so many cells, in a block from B on -/
def SlOf (w : World) (B : Nat) (v : Value) (size n : Nat) (F : Nat → Nat → Value) : Prop :=
  (∃ ao cap, v = .slice ao 0 cap ∧ n = 0) ∨ ∃ g off cap, v = .slice (some ⟨g, off, none⟩) n cap ∧ 0 < n ∧ n ≤ cap ∧ cap ≤ 9223372036854775807 ∧ B ≤ g ∧ ∀ i, i < n → ∀ t, t < size → cellAt (obj w g) (off + i * size + t) = some (F i t)
section
variable {w w' : World} {B size n : Nat} {v : Value} {F G : Nat → Nat → Value} {L : List Nat}
theorem SlOf.form (h : SlOf w B v size n F) : ∃ ao cap, v = .slice ao n cap := by
  rcases h with ⟨ao, cap, rfl, rfl⟩ | ⟨g, off, cap, rfl, _⟩ <;> exact ⟨_, _, rfl⟩
theorem SlOf.kept (h : SlOf w B v size n F) (k : Kept L w w') (hL : ∀ x ∈ L, x < B) : SlOf w' B v size n F := by
  rcases h with h | ⟨g, off, cap, h0, h1, h2, h3, h4, h5⟩
  · exact Or.inl h
  · exact Or.inr ⟨g, off, cap, h0, h1, h2, h3, h4, fun i hi t ht => k.cell (h5 i hi t ht) fun hg => by have := hL g hg; omega⟩
theorem SlOf.below (h : SlOf w B v size n F) (k : Below w.heap.size w w') : SlOf w' B v size n F := h.kept (below_kept k) (by simp)
theorem SlOf.alloc (h : SlOf w B v size n F) (o : Obj) : SlOf (w.alloc o) B v size n F := h.below ((Below.refl _ _).alloc (Nat.le_refl _) _)
theorem SlOf.drawn (h : SlOf w B v size n F) (k : Nat) : SlOf (w.drewN k) B v size n F := h
theorem SlOf.mono {B' : Nat} (h : SlOf w B v size n F) (hB : B' ≤ B) : SlOf w B' v size n F := by
  rcases h with h | ⟨g, off, cap, h0, h1, h2, h3, h4, h5⟩
  · exact Or.inl h
  · exact Or.inr ⟨g, off, cap, h0, h1, h2, h3, by omega, h5⟩
theorem SlOf.congr (h : SlOf w B v size n F) (hF : ∀ i, i < n → ∀ t, t < size → F i t = G i t) : SlOf w B v size n G := by
  rcases h with h | ⟨g, off, cap, h0, h1, h2, h3, h4, h5⟩
  · exact Or.inl h
  · exact Or.inr ⟨g, off, cap, h0, h1, h2, h3, h4, fun i hi t ht => by rw [← hF i hi t ht]; exact h5 i hi t ht⟩
theorem SlOf.nil : SlOf w B (.slice none 0 0) size 0 F := Or.inl ⟨none, 0, rfl, rfl⟩
/-- the cells of an element, if there is one -/
theorem SlOf.cells (h : SlOf w B v size n F) (h0 : 0 < n) : ∃ g off cap, v = .slice (some ⟨g, off, none⟩) n cap ∧ n ≤ cap ∧ cap ≤ 9223372036854775807 ∧ B ≤ g ∧ ∀ i, i < n → ∀ t, t < size → cellAt (obj w g) (off + i * size + t) = some (F i t) := by
  rcases h with ⟨_, _, _, e⟩ | ⟨g, off, cap, e, _, h1, h2, h3, h4⟩
  · omega
  · exact ⟨g, off, cap, e, h1, h2, h3, h4⟩
/-- a slice that a call has made -/
theorem own_sl {base : Nat} {e : TypeId} (h : w.ownsRow base e size v n (flatF size F n)) (hz : n = 0 → v = .slice none 0 0) : SlOf w base v size n F := by
  by_cases h0 : n = 0
  · rw [hz h0]; subst h0; exact SlOf.nil
  · rcases h.2 with ⟨_, e⟩ | ⟨g, cap, cur, hv, hb, hg, hle, hcap, hsz, ht⟩
    · omega
    · refine Or.inr ⟨g, 0, cap, hv, by omega, hle, by unfold maxLen at hcap; omega, hb, fun i hi t htt => ?_⟩
      rw [Nat.zero_add]
      show cellAt (w.heap[g]?) _ = _
      rw [hg, cellAt_some]
      have h1 := flatF_get size F n i t hi htt
      rw [← ht] at h1
      have h2 : i * size + t < n * size := by
        have : (i + 1) * size ≤ n * size := Nat.mul_le_mul_right _ (by omega)
        rw [Nat.succ_mul] at this; omega
      rw [List.getElem?_take, if_pos h2] at h1
      unfold nth
      rw [← Array.getElem?_toList]; exact h1
/-- a block's cells as a row -/
theorem rowAt_of {o : Option Obj} {off m : Nat} {vs : Array Value} (hm : vs.size = m) (h0 : 0 < m) (h : ∀ t, t < m → cellAt o (off + t) = nth vs t) (ho : ∃ c ty, o = some (.cells c ty (0, 0))) : rowAt o off m = some vs := by
  obtain ⟨c, ty, rfl⟩ := ho
  have hl := h (m - 1) (by omega)
  rw [cellAt_some] at hl
  have hle : off + m ≤ c.size := by
    have e : nth vs (m - 1) = some vs[m - 1] := Array.getElem?_eq_getElem (by omega)
    have := nth_lt (hl.trans e); omega
  rw [rowAt_some _ _ _ _ _ hle]
  congr 1
  apply Array.ext_getElem?
  intro i
  by_cases hi : i < m
  · have := h i hi
    rw [cellAt_some] at this
    unfold nth at this
    rw [← this, Array.getElem?_extract, if_pos (by omega)]
  · rw [Array.getElem?_eq_none (by simp; omega), Array.getElem?_eq_none (by omega)]

/-- behind an append: what was below is as it was -/
theorem below_own {wr wA : World} {base k : Nat} {e : TypeId} {s1 : Value} {xs : List Value} {w0 : World} {o1 : Obj} (hb : Below base w0 wr) (hs : base ≤ wr.heap.size) (H1 : wr.ownsRow base e size s1 k xs) (hgA : (wr.alloc o1).grownBy wA s1.ownBlock) : Below base w0 wA :=
  (hb.alloc hs o1).grown hgA (by simp; omega) (fun j hj => (H1.lt j hj).1)
theorem below_own0 {wr wA : World} {base k : Nat} {e : TypeId} {s1 : Value} {xs : List Value} {w0 : World} (hb : Below base w0 wr) (hs : base ≤ wr.heap.size) (H1 : wr.ownsRow base e size s1 k xs) (hgA : wr.grownBy wA s1.ownBlock) : Below base w0 wA :=
  hb.grown hgA hs (fun j hj => (H1.lt j hj).1)
/-- one element that is to be appended, in a new block -/
theorem news_new (w : World) (l : List Value) (t : TypeId) : ∀ j u, l[j]? = some u → (w.alloc (.cells l.toArray t)).cell? ((⟨w.heap.size, 0, none⟩ : Addr).add j) = some u := by
  intro j u hu
  rw [addr_add, Nat.zero_add, cell?_heap, newA, cellAt_some, nth_lit]
  exact hu
end
/-- two rows of Go: the parts of an information on a type -/
theorem info_parts' {P : Program} {t : TypeId} {z : Value} {n m : Nat} (h : (P.info? t).map (fun i => (i.zero, i.size, i.bytes)) = some (some z, n, m)) : ∃ i, P.info? t = some i ∧ i.zero = some z ∧ i.size = n ∧ i.bytes = m := by
  cases h1 : P.info? t with
  | none => rw [h1] at h; cases h
  | some i => rw [h1] at h; simp at h; exact ⟨i, rfl, h.1, h.2.1, h.2.2⟩
theorem info25 : (Tryz.prog.info? 25).map (fun i => (i.zero, i.size, i.bytes)) = some (some (.int .u64 0), 1, 8) := by kernel_rfl
theorem info3 : (Tryz.prog.info? 3).map (fun i => (i.zero, i.size, i.bytes)) = some (some (.int .i64 0), 1, 8) := by kernel_rfl
theorem info5 : (Tryz.prog.info? 5).map (fun i => (i.zero, i.size, i.bytes)) = some (some (.int .u8 0), 1, 1) := by kernel_rfl
/-- words as elements -/
def wordF (f : Nat → Int) : Nat → Nat → Value := fun i _ => .int .u64 (f i)
def intF (f : Nat → Int) : Nat → Nat → Value := fun i _ => .int .i64 (f i)
def byteF (f : Nat → Int) : Nat → Nat → Value := fun i _ => .int .u8 (f i)
end Go.Proofs.YtphmfaddgpjndaaGreat

/- Contracts of packages spare and lines, of lines of which none fails. -/
namespace Go.Proofs.YtphmfaddgpjndaaGreat
open Go.ChangeShapes Go.WideShapes Go.RowKit

/-- noughts -/
def zeroF : Nat → Nat → Value := wordF fun _ => 0
/-- lines lie in block LN -/
def LinesAt (w : World) (LN Mb slots spares : Nat) : Prop := obj w LN = some (.cells #[.pointer (some ⟨Mb, 0, none⟩), .int .i64 slots, .int .i64 spares] 168 (0, 0))
/-- no spare line is in use -/
def MS.fresh (m : MS) (spares : Nat) : Prop := ∀ i, i < spares → m.reg (3 + i) = 0
section
variable {w : World} {Mb Cb LN slots spares : Nat} {m : MS}
set_option maxRecDepth 100000 in
set_option maxHeartbeats 1600000 in
theorem table_in (h : MemAt w Mb Cb m) (hd : m.down = false) (hl : LinesAt w LN Mb slots spares) (hs : spares ≤ 16) (hf : m.fresh spares) :
    Calls Tryz.prog 146 #[.pointer (some ⟨LN, 0, none⟩)] w fun e w' => ∃ v, e = .returned (.tuple #[v, .int .i64 0]) ∧ SlOf w' w.heap.size v 1 spares zeroF ∧ Below w.heap.size w w' := by
  obtain ⟨i0, hi0, hz0, hz1, hz2⟩ := info_parts' info25
  have HM := Lib.hid h
  have HD := Lib.hid hd
  have HS := Lib.hid hs
  have HF := Lib.hid hf
  have hl' : obj w LN = some (.cells #[.pointer (some ⟨Mb, 0, none⟩), .int .i64 slots, .int .i64 spares] 168 (0, 0)) := hl
  have HL := Lib.hid hl'
  clear h hd hs hf hl
  go_enter Tryz.func146, Tryz.ntmps146
  go_wp2_with fail
  go_loopw [4, 12] (fun s i wr => ∃ k : Nat, k ≤ spares ∧ i = .int .i64 k ∧ wr.ownsRow w.heap.size 25 1 s k (flatF 1 zeroF k) ∧ (k = 0 → s = .slice none 0 0) ∧ Below w.heap.size w wr) (fun _ i _ => spares - (intOf i).toNat)
  case atStart => exact ⟨0, Nat.zero_le _, rfl, World.ownsRow_nil _ _ _ _, fun _ => rfl, Below.refl _ _⟩
  case round =>
    obtain ⟨k, hk, rfl, o1, oz, ob⟩ := hrel
    have H1 := Lib.hid o1
    have HZ := Lib.hid oz
    have HB := Lib.hid ob
    have hL := keep ob HL.out
    have hM := HM.out.below ob
    clear o1 oz ob hl'
    by_cases hlt : k < spares
    · have hltz : (k : Int) < (spares : Int) := by omega
      obtain ⟨k3, hk3⟩ : ∃ k3, 3 + k = k3 := ⟨_, rfl⟩
      have wk3 : IntKind.i64.wrap (3 + (k : Int)) = (k3 : Int) := by have := HS.out; rw [IntKind.wrap_i64]; omega
      have wk : IntKind.i64.wrap ((k : Int) + 1) = (k : Int) + 1 := by have := HS.out; rw [IntKind.wrap_i64]; omega
      have KR := reg_in hM HD.out k3 (by have := HS.out; omega)
      have e0 : m.reg k3 = 0 := by rw [← hk3]; exact HF.out k hlt
      rw [e0] at KR
      have KR := Lib.hid KR
      have HLT := Lib.hid hlt
      clear hk hlt hM hk3 e0
      go_wp2_with fail
      refine KR.out.mono ?_
      rintro _ _ ⟨rfl, rfl⟩
      go_wp2_with (at_builtin; refine wpList_append_lies _ rfl (.tmp 28) (.tmp 30) 54 rfl w.heap.size 25 i0 _ 1 8 Tryz.underlying54 hi0 hz0 hz1 hz2 rfl (by decide) _ k _ rfl (H1.out.alloc _) ⟨wr.heap.size, 0, none⟩ 1 1 [.int .u64 0] rfl rfl (news_new _ _ _) (by simp [Value.oneCell']) (by decide) (by have := HS.out; have := HLT.out; unfold maxLen; omega) (by have := HS.out; have := HLT.out; omega) (by have := HB.out.size; simp; omega) (wr.heap.size + 1) (by simp) ?_; intro gA capA wA hownA hgrowA hatA hltA)
      exact ⟨⟨k + 1, HLT.out, by simp, by rw [flatF_succ]; exact hownA, fun e => (by omega), below_own HB.out HB.out.size H1.out hgrowA⟩, by have := HLT.out; simp only [intOf]; omega⟩
    · have : k = spares := by omega
      subst this
      have hltz : ¬ (k : Int) < (k : Int) := by omega
      have KD := down_in hM
      rw [HD.out] at KD
      have KD := Lib.hid KD
      clear hk hlt hM
      go_wp2_with (go_at_call 87; refine KD.out.mono ?_; rintro _ _ ⟨rfl, rfl⟩)
      go_ret2
      exact ⟨_, rfl, own_sl H1.out HZ.out, HB.out⟩
set_option maxHeartbeats 800000 in
theorem dead_any (n : Nat) (w : World) (h : 1 ≤ n ∧ n ≤ 1000) : Calls Tryz.prog 127 #[.int .i64 n] w fun e w' => e = .returned (.int .u64 ((n + 1 : Nat) : Int)) ∧ w = w' := by
  have d1 : ¬ (n : Int) < 1 := by omega
  have e1 : IntKind.u64.wrap (n : Int) = (n : Int) := by rw [IntKind.wrap_u64]; omega
  have e2 : IntKind.u64.wrap ((n : Int) + 1) = (n : Int) + 1 := by rw [IntKind.wrap_u64]; omega
  clear h
  go_enter Tryz.func127, Tryz.ntmps127
  go_wp2
  go_ret
  exact ⟨by simp, rfl⟩
set_option maxHeartbeats 1600000 in
theorem smay_in {B n : Nat} {v : Value} (h : SlOf w B v 1 n zeroF) (slots : Nat) (hs : 1 ≤ slots ∧ slots ≤ 1000) (hn : n ≤ 1000) :
    Calls Tryz.prog 147 #[v, .int .i64 slots] w fun e w' => e = .returned (.bool true) ∧ w = w' := by
  have KD := fun w => Lib.hid (dead_any slots w hs)
  have HV := Lib.hid h
  have HN := Lib.hid hn
  have d1 : (slots : Int) ≥ 1 := by omega
  have d2 : ¬ (0 : Int) > ((slots + 1 : Nat) : Int) := by omega
  obtain ⟨ao, cap, rfl⟩ := h.form
  generalize hD : slots + 1 = D at KD d2
  clear h hs hn hD
  have KD := Lib.hid KD
  go_enter Tryz.func147, Tryz.ntmps147
  go_wp2_with fail
  go_loopw [9] (fun i wr => ∃ k : Nat, k ≤ n ∧ i = .int .i64 k ∧ w = wr) (fun i _ => n - (intOf i).toNat)
  case atStart => exact ⟨0, Nat.zero_le _, rfl, rfl⟩
  case round =>
    obtain ⟨k, hk, rfl, rfl⟩ := hrel
    by_cases hlt : k < n
    · have hltz : (k : Int) < (n : Int) := by omega
      have k0 : (0 : Int) ≤ (k : Int) := Int.natCast_nonneg k
      have wk : IntKind.i64.wrap ((k : Int) + 1) = (k : Int) + 1 := by have := HN.out; rw [IntKind.wrap_i64]; omega
      rcases HV.out with ⟨_, _, _, e⟩ | ⟨b1, off1, c1, e1, _, _, _, _, hI⟩
      · exfalso; omega
      obtain ⟨rfl, rfl⟩ : ao = some ⟨b1, off1, none⟩ ∧ cap = c1 := by simpa using e1
      have cJ : cellAt (obj w b1) (off1 + k) = some (.int .u64 0) := by have := hI k hlt 0 (by decide); simp only [Nat.mul_one, Nat.add_zero] at this; exact this
      have HLT := Lib.hid hlt
      clear hk hlt hI e1
      by_cases hk0 : k = 0
      · subst hk0
        rw [Nat.add_zero] at cJ
        go_wp2_with fail
        refine (KD.out _).out.mono ?_
        rintro _ _ ⟨rfl, rfl⟩
        go_wp2_with fail
        exact ⟨⟨1, HLT.out, by simp, by simp⟩, by have := HLT.out; simp only [intOf]; omega⟩
      · have kp : (k : Int) > 0 := by omega
        go_wp2_with fail
        refine (KD.out _).out.mono ?_
        rintro _ _ ⟨rfl, rfl⟩
        go_wp2_with fail
        exact ⟨⟨k + 1, HLT.out, by simp, by simp⟩, by have := HLT.out; simp only [intOf]; omega⟩
    · have : k = n := by omega
      subst this
      have hltz : ¬ (k : Int) < (k : Int) := by omega
      clear hk hlt
      go_wp2
      go_ret
      exact ⟨rfl, rfl⟩
set_option maxHeartbeats 1600000 in
theorem place_any {B n : Nat} {v : Value} (h : SlOf w B v 1 n zeroF) (slots slot : Nat) (hs : slot < slots) (hs2 : slots ≤ 1000) (hn : n ≤ 1000) :
    Calls Tryz.prog 148 #[v, .int .i64 slots, .int .i64 slot] w fun e w' => e = .returned (.int .i64 slot) ∧ w = w' := by
  have HV := Lib.hid h
  have HN := Lib.hid hn
  have d1 : ¬ (slot : Int) < 0 := by omega
  have d2 : ¬ (slot : Int) ≥ (slots : Int) := by omega
  have e1 : IntKind.u64.wrap (slot : Int) = (slot : Int) := by rw [IntKind.wrap_u64]; omega
  have e2 : IntKind.u64.wrap ((slot : Int) + 1) = (slot : Int) + 1 := by rw [IntKind.wrap_u64]; omega
  have d3 : ¬ (0 : Int) = (slot : Int) + 1 := by omega
  have wn : IntKind.i64.wrap ((n : Int) - 1) = (n : Int) - 1 := by rw [IntKind.wrap_i64]; omega
  obtain ⟨ao, cap, rfl⟩ := h.form
  clear h hs hs2 hn
  go_enter Tryz.func148, Tryz.ntmps148
  go_wp2_with fail
  go_loopw [7] (fun i wr => ∃ k : Nat, k ≤ n ∧ i = .int .i64 ((k : Int) - 1) ∧ w = wr) (fun i _ => (intOf i + 1).toNat)
  case atStart => exact ⟨n, Nat.le_refl _, rfl, rfl⟩
  case round =>
    obtain ⟨k, hk, rfl, rfl⟩ := hrel
    by_cases hlt : 0 < k
    · obtain ⟨j, rfl⟩ : ∃ j, k = j + 1 := ⟨k - 1, by omega⟩
      have ej : (((j + 1 : Nat) : Int) - 1) = (j : Int) := by omega
      have j0 : (j : Int) ≥ 0 := by omega
      have j0' : (0 : Int) ≤ (j : Int) := by omega
      have jn : (j : Int) < (n : Int) := by omega
      have wj : IntKind.i64.wrap ((j : Int) - 1) = (j : Int) - 1 := by have := HN.out; rw [IntKind.wrap_i64]; omega
      rcases HV.out with ⟨_, _, _, e⟩ | ⟨b1, off1, c1, e3, _, _, _, _, hI⟩
      · exfalso; omega
      obtain ⟨rfl, rfl⟩ : ao = some ⟨b1, off1, none⟩ ∧ cap = c1 := by simpa using e3
      have cJ : cellAt (obj w b1) (off1 + j) = some (.int .u64 0) := by have := hI j (by omega) 0 (by decide); simp only [Nat.mul_one, Nat.add_zero] at this; exact this
      have HK := Lib.hid hk
      rw [ej]
      clear hk hlt hI e3 ej
      go_wp2_with fail
      exact ⟨⟨j, by have := HK.out; omega, by simp, by simp⟩, by simp only [intOf]; omega⟩
    · obtain rfl : k = 0 := by omega
      have hltz : ¬ ((0 : Int) - 1) ≥ 0 := by omega
      clear hk hlt
      go_wp2
      go_ret
      exact ⟨rfl, rfl⟩
end
end Go.Proofs.YtphmfaddgpjndaaGreat

/- Contracts of package lines: place, Get, Put, New. -/
namespace Go.Proofs.YtphmfaddgpjndaaGreat
open Go.ChangeShapes Go.WideShapes Go.RowKit

theorem LinesAt.kept {L : List Nat} {w w' : World} {LN Mb slots spares : Nat} (h : LinesAt w LN Mb slots spares) (k : Kept L w w') (hn : LN ∉ L) : LinesAt w' LN Mb slots spares := k.keep h hn
theorem LinesAt.below {w w' : World} {LN Mb slots spares : Nat} (h : LinesAt w LN Mb slots spares) (k : Below w.heap.size w w') : LinesAt w' LN Mb slots spares := keep k h
section
variable {w : World} {Mb Cb LN slots spares : Nat} {m : MS}
set_option maxHeartbeats 1600000 in
theorem lplace_in (h : MemAt w Mb Cb m) (hd : m.down = false) (hl : LinesAt w LN Mb slots spares) (hs : spares ≤ 16) (hf : m.fresh spares) (slot : Nat) (h1 : slot < slots) (h2 : slots ≤ 1000) :
    Calls Tryz.prog 119 #[.pointer (some ⟨LN, 0, none⟩), .int .i64 slot] w fun e w' => ∃ v, e = .returned (.tuple #[.int .i64 slot, v, .int .i64 0]) ∧ Below w.heap.size w w' := by
  have KT := Lib.hid (table_in h hd hl hs hf)
  have hl' : obj w LN = some (.cells #[.pointer (some ⟨Mb, 0, none⟩), .int .i64 slots, .int .i64 spares] 168 (0, 0)) := hl
  have HL := Lib.hid hl'
  have d1 : ¬ (slot : Int) < 0 := by omega
  have d2 : ¬ (slot : Int) ≥ (slots : Int) := by omega
  have HS := Lib.hid hs
  have H1 := Lib.hid h1
  have H2 := Lib.hid h2
  clear h hd hl hs hf h1 h2
  go_enter Tryz.func119, Tryz.ntmps119
  go_wp2_with fail
  refine KT.out.mono ?_
  rintro _ w1 ⟨v, rfl, hv, hb⟩
  have HV := Lib.hid hv
  have HB := Lib.hid hb
  have hl1 := keep hb HL.out
  have KP := Lib.hid (place_any hv slots slot H1.out H2.out (by have := HS.out; omega))
  clear hv hb KT hl'
  go_wp2_with fail
  refine KP.out.mono ?_
  rintro _ _ ⟨rfl, rfl⟩
  go_wp2
  go_ret3
  exact ⟨v, rfl, HB.out⟩
set_option maxHeartbeats 1600000 in
theorem lget_in (h : MemAt w Mb Cb m) (hd : m.down = false) (hl : LinesAt w LN Mb slots spares) (hs : spares ≤ 16) (hf : m.fresh spares) (slot : Nat) (h1 : slot < slots) (h2 : slots ≤ 1000) (h3 : slots ≤ m.n) :
    Calls Tryz.prog 92 #[.pointer (some ⟨LN, 0, none⟩), .int .i64 slot] w fun e w' => e = .returned (.tuple #[.agg (cs (m.line slot)), .int .i64 0]) ∧ Below w.heap.size w w' := by
  have hA := h.alloc (.cells z8 91)
  have hlA := hl.below ((Below.refl _ _).alloc (Nat.le_refl _) (.cells z8 91))
  have KP := Lib.hid (lplace_in hA hd hlA hs hf slot h1 h2)
  have HM := Lib.hid hA
  have HL := Lib.hid hlA
  have hlen := h.len slot (by omega)
  have H0 := Lib.hid (And.intro hd (show slot < m.n by omega))
  obtain ⟨l, hll⟩ : ∃ l, m.line slot = l := ⟨_, rfl⟩
  have HLL := Lib.hid hll
  have HA := Lib.hid (newA w (.cells z8 91))
  rw [hll] at hlen ⊢
  clear h hd hl hs hf h1 h2 h3 hA hlA hll
  go_enter Tryz.func92, Tryz.ntmps92
  go_wp2_with fail
  refine KP.out.mono ?_
  rintro _ w1 ⟨v, rfl, hb⟩
  have hl1 : obj w1 LN = some (.cells #[.pointer (some ⟨Mb, 0, none⟩), .int .i64 slots, .int .i64 spares] 168 (0, 0)) := keep hb HL.out
  have KG := get_in (HM.out.below hb) H0.out.1 slot H0.out.2
  rw [HLL.out] at KG
  have KG := Lib.hid KG
  have HB := Lib.hid hb
  have HA1 := Lib.hid (keep hb HA.out)
  clear hb KP
  go_wp2_with fail
  refine KG.out.mono ?_
  rintro _ w2 ⟨rfl, hb⟩
  have q := keep hb HA1.out
  have HB2 := Lib.hid (((Below.refl w.heap.size w).alloc (Nat.le_refl _) (.cells z8 91)).trans ((HB.out.trans (hb.mono HB.out.size)).mono (by simp)))
  clear hb HA1
  go_wp2_with fail
  refine ret_row2 rfl rfl (Tryz.isAgg91 _) (size91 _) (c := cs l) ?_ rfl rfl ⟨rfl, ?_⟩
  · rw [sz91]
    simp [go_sem, q, hlen]
  · exact setRow_below HB2.out (Nat.le_refl _) _
theorem tells_not (m : MS) : ¬ m.tells = 3 := by unfold MS.tells; split <;> omega
set_option maxRecDepth 100000 in
set_option maxHeartbeats 1600000 in
theorem lput_in (h : MemAt w Mb Cb m) (hd : m.down = false) (hc : m.cut ≤ 0) (hw : IntKind.i64.wrap (m.writes + 1) = m.writes + 1) (hl : LinesAt w LN Mb slots spares) (hs : spares ≤ 16) (hf : m.fresh spares) (slot : Nat) (h1 : slot < slots) (h2 : slots ≤ 1000) (h3 : slots ≤ m.n)
    (hwj : IntKind.i64.wrap (m.wear slot + 1) = m.wear slot + 1) (l : List Int) (hll : l.length = 8) :
    Calls Tryz.prog 96 #[.pointer (some ⟨LN, 0, none⟩), .int .i64 slot, .agg (cs l)] w fun e w' => e = .returned (.int .i64 m.tells) ∧ MemAt w' Mb Cb (m.put slot l) ∧ Kept [Mb, Cb] w w' := by
  have hA := h.alloc (.cells (cs l) 91)
  have hlA := hl.below ((Below.refl _ _).alloc (Nat.le_refl _) (.cells (cs l) 91))
  have KP := Lib.hid (lplace_in hA hd hlA hs hf slot h1 h2)
  have HM := Lib.hid hA
  have HL := Lib.hid hlA
  have H0 := Lib.hid (And.intro hd (And.intro hc (And.intro hw (And.intro hwj (And.intro hll (show slot < m.n by omega))))))
  have HP := Lib.hid (newA w (.cells (cs l) 91))
  have HLT := Lib.hid (And.intro h.hM.lt h.hL.lt)
  have d3 := tells_not m
  obtain ⟨tl, htl⟩ : ∃ tl, m.tells = tl := ⟨_, rfl⟩
  rw [htl] at d3 ⊢
  have HT := Lib.hid htl
  clear h hd hc hw hl hs hf h1 h2 h3 hwj hll hA hlA htl
  go_enter Tryz.func96, Tryz.ntmps96
  go_wp2_with fail
  refine KP.out.mono ?_
  rintro _ w1 ⟨v, rfl, hb⟩
  have hl1 : obj w1 LN = some (.cells #[.pointer (some ⟨Mb, 0, none⟩), .int .i64 slots, .int .i64 spares] 168 (0, 0)) := keep hb HL.out
  have hp1 := keep hb HP.out
  have HM1 := Lib.hid (HM.out.below hb)
  have HK1 := Lib.hid (((Kept.refl [Mb, Cb] w).alloc (.cells (cs l) 91)).then_below hb)
  have hll := H0.out.2.2.2.2.1
  have b1 := lt_of_obj hl1
  have b2 := lt_of_obj hp1
  clear hb KP HM HL HP
  go_wp2_with fail
  refine wp_region_more_tail 6 (by kernel_rfl) (by kernel_rfl) (by kernel_rfl) ?_
  simp only [List.take_succ_cons, List.take_zero, List.drop_succ_cons, List.drop_zero]
  repeat (go_big_quiet_step ((fail)))
  refine wpQuiet_nil ?_
  intro _ hw'
  obtain ⟨y, hw''⟩ := hw'
  subst hw''
  have HM2 := HM1.out.below (more_below w1 y)
  have KK := put_in HM2 H0.out.1 H0.out.2.1 H0.out.2.2.1 slot H0.out.2.2.2.2.2 H0.out.2.2.2.1 l hll
  rw [HT.out] at KK
  have KK := Lib.hid KK
  have HK2 := Lib.hid (HK1.out.more y)
  clear HM2 HM1 HK1
  change wpList _ _ _ _ _ (more w1 y)
  generalize more w1 y = w2 at KK HK2 ⊢
  go_wp2_with fail
  refine KK.out.mono ?_
  rintro _ w3 ⟨rfl, hm, hk⟩
  have HM3 := Lib.hid hm
  have HK3 := Lib.hid (HK2.out.trans hk)
  clear hm hk KK HK2
  go_wp2
  go_ret
  exact ⟨rfl, HM3.out, HK3.out⟩
set_option maxHeartbeats 1600000 in
theorem lnew_in (h : MemAt w Mb Cb m) (hd : m.down = false) (hs : spares ≤ 16) (hf : m.fresh spares) (h1 : 1 ≤ slots ∧ slots ≤ 1000) (hn : m.n = slots + spares) :
    Calls Tryz.prog 118 #[.pointer (some ⟨Mb, 0, none⟩), .int .i64 slots, .int .i64 spares] w fun e w' => ∃ LN, e = .returned (.pointer (some ⟨LN, 0, none⟩)) ∧ LinesAt w' LN Mb slots spares ∧ w.heap.size ≤ LN ∧ Below w.heap.size w w' := by
  have KL := lines_in h
  rw [hn] at KL
  have KL := Lib.hid KL
  have d1 : ¬ (slots : Int) < 1 := by omega
  have d2 : ¬ (spares : Int) < 0 := by omega
  have d3 : ¬ (spares : Int) > 16 := by omega
  have d4 : IntKind.i64.wrap (((slots + spares : Nat) : Int) - (spares : Int)) = (slots : Int) := by rw [IntKind.wrap_i64]; omega
  have hA := h.alloc (.cells #[.pointer (some ⟨Mb, 0, none⟩), .int .i64 slots, .int .i64 spares] 168)
  have hlA : LinesAt (w.alloc (.cells #[.pointer (some ⟨Mb, 0, none⟩), .int .i64 slots, .int .i64 spares] 168)) w.heap.size Mb slots spares := newA w _
  have KT := Lib.hid (table_in hA hd hlA hs hf)
  have HL := Lib.hid hlA
  have HS := Lib.hid hs
  have H1 := Lib.hid h1
  clear h hd hs hf h1 hn hA hlA
  generalize hN : slots + spares = N at KL d4
  clear hN
  go_enter Tryz.func118, Tryz.ntmps118
  go_wp2_with fail
  refine KL.out.mono ?_
  rintro _ _ ⟨rfl, rfl⟩
  clear KL
  go_wp2_with fail
  refine KT.out.mono ?_
  rintro _ w1 ⟨v, rfl, hv, hb⟩
  have KM := Lib.hid (smay_in hv slots H1.out (by have := HS.out; omega))
  have HB := Lib.hid (((Below.refl w.heap.size w).alloc (Nat.le_refl _) (.cells #[.pointer (some ⟨Mb, 0, none⟩), .int .i64 slots, .int .i64 spares] 168)).trans (hb.mono (by simp)))
  have HL1 := Lib.hid (HL.out.below hb)
  clear hv hb KT
  go_wp2_with fail
  refine KM.out.mono ?_
  rintro _ _ ⟨rfl, rfl⟩
  go_wp2
  go_ret
  exact ⟨w.heap.size, rfl, HL1.out, Nat.le_refl _, HB.out⟩
end
end Go.Proofs.YtphmfaddgpjndaaGreat

/- Contracts of package gap; the plain law: a move keeps each line. -/
namespace Go.Proofs.YtphmfaddgpjndaaGreat
open Go.ChangeShapes Go.WideShapes Go.RowKit

/-! ### the plain law -/
/-- the free slot -/
def gapN (n mv : Nat) : Nat := n - mv % (n + 1)
/-- how far the lines are round -/
def turnN (n mv : Nat) : Nat := mv / (n + 1) % n
/-- where a line stands -/
def slotN (n mv x : Nat) : Nat := if gapN n mv ≤ (x + turnN n mv) % n then (x + turnN n mv) % n + 1 else (x + turnN n mv) % n
/-- from where the next move copies -/
def fromN (n mv : Nat) : Nat := if gapN n mv = 0 then n else gapN n mv - 1
theorem slotN_le {n mv x : Nat} (hn : 0 < n) : slotN n mv x ≤ n := by
  have := Nat.mod_lt (x + turnN n mv) hn
  unfold slotN; split <;> omega
theorem slotN_ne {n mv x : Nat} : slotN n mv x ≠ gapN n mv := by
  unfold slotN; split <;> omega
theorem slotN_inj {n mv x y : Nat} (hx : x < n) (hy : y < n) (h : slotN n mv x = slotN n mv y) : x = y := by
  have hn : 0 < n := by omega
  have e : (x + turnN n mv) % n = (y + turnN n mv) % n := by
    unfold slotN at h
    split at h <;> split at h <;> omega
  obtain ⟨t, ht⟩ : ∃ t, turnN n mv = t := ⟨_, rfl⟩
  rw [ht] at e
  have ht2 : t < n := by rw [← ht]; exact Nat.mod_lt _ hn
  have a : (x + t) % n = if x + t < n then x + t else x + t - n := by
    split
    · exact Nat.mod_eq_of_lt (by assumption)
    · rw [Nat.mod_eq_sub_mod (by omega), Nat.mod_eq_of_lt (by omega)]
  have b : (y + t) % n = if y + t < n then y + t else y + t - n := by
    split
    · exact Nat.mod_eq_of_lt (by assumption)
    · rw [Nat.mod_eq_sub_mod (by omega), Nat.mod_eq_of_lt (by omega)]
  rw [a, b] at e
  split at e <;> split at e <;> omega
theorem gapN_le (n mv : Nat) : gapN n mv ≤ n := by unfold gapN; omega
theorem fromN_le {n mv : Nat} : fromN n mv ≤ n := by have := gapN_le n mv; unfold fromN; split <;> omega
/-- behind a move each line stands where it stood, but for the one that was copied -/
theorem slotN_move {n mv x : Nat} (hn : 0 < n) : slotN n (mv + 1) x = if slotN n mv x = fromN n mv then gapN n mv else slotN n mv x := by
  have hr : mv % (n + 1) < n + 1 := Nat.mod_lt _ (by omega)
  by_cases h : mv % (n + 1) = n
  · have e1 : (mv + 1) % (n + 1) = 0 := by rw [Nat.add_mod, h]; by_cases h1 : n = 0 <;> simp [Nat.mod_eq_of_lt (show 1 < n + 1 by omega)]
    have e2 : (mv + 1) / (n + 1) = mv / (n + 1) + 1 := by
      have := Nat.div_add_mod mv (n + 1)
      rw [h] at this
      have e3 : mv + 1 = (n + 1) * (mv / (n + 1) + 1) := by rw [Nat.mul_add]; omega
      rw [e3, Nat.mul_div_cancel_left _ (by omega)]
    have g1 : gapN n mv = 0 := by unfold gapN; omega
    have g2 : gapN n (mv + 1) = n := by unfold gapN; omega
    have t1 : turnN n (mv + 1) = (turnN n mv + 1) % n := by unfold turnN; rw [e2, Nat.add_mod (mv / (n + 1)) 1 n, Nat.add_mod (mv / (n + 1) % n) 1 n, Nat.mod_mod]
    obtain ⟨p, hp⟩ : ∃ p, (x + turnN n mv) % n = p := ⟨_, rfl⟩
    have hpn : p < n := by rw [← hp]; exact Nat.mod_lt _ hn
    have e3 : (x + turnN n (mv + 1)) % n = (p + 1) % n := by
      rw [t1, ← hp, Nat.add_mod x, Nat.mod_mod, ← Nat.add_mod, ← Nat.add_assoc, Nat.add_mod (x + turnN n mv) 1 n, Nat.add_mod ((x + turnN n mv) % n) 1 n, Nat.mod_mod]
    unfold slotN fromN
    rw [e3, hp, g1, g2]
    simp only [if_true, Nat.zero_le]
    by_cases hl : p + 1 < n
    · rw [Nat.mod_eq_of_lt hl, if_neg (by omega), if_neg (by omega)]
    · have : p + 1 = n := by omega
      rw [this, Nat.mod_self, if_neg (by omega), if_pos rfl]
  · have e1 : (mv + 1) % (n + 1) = mv % (n + 1) + 1 := by
      rw [Nat.add_mod, Nat.mod_eq_of_lt (show 1 < n + 1 by omega), Nat.mod_eq_of_lt (by omega)]
    have e2 : (mv + 1) / (n + 1) = mv / (n + 1) := by
      have a := Nat.div_add_mod mv (n + 1)
      have : mv + 1 = (n + 1) * (mv / (n + 1)) + (mv % (n + 1) + 1) := by omega
      have z : (mv % (n + 1) + 1) / (n + 1) = 0 := Nat.div_eq_of_lt (by omega)
      rw [this, Nat.mul_add_div (by omega), z]; rfl
    have g1 : gapN n (mv + 1) = gapN n mv - 1 := by unfold gapN; omega
    have g2 : 0 < gapN n mv := by unfold gapN; omega
    have t1 : turnN n (mv + 1) = turnN n mv := by unfold turnN; rw [e2]
    obtain ⟨p, hp⟩ : ∃ p, (x + turnN n mv) % n = p := ⟨_, rfl⟩
    unfold slotN fromN
    rw [t1, hp, g1, if_neg (show ¬ gapN n mv = 0 by omega)]
    by_cases h1 : gapN n mv ≤ p
    · rw [if_pos (by omega), if_pos h1, if_neg (by omega)]
    · rw [if_neg h1]
      by_cases h2 : p = gapN n mv - 1
      · rw [if_pos (by omega), if_pos h2]; omega
      · rw [if_neg (by omega), if_neg h2]

/-! ### the walks -/
section
variable {n mv : Nat}
theorem tdiv_nat (a b : Nat) : (a : Int).tdiv (b : Int) = ((a / b : Nat) : Int) := by rw [Int.tdiv_eq_ediv_of_nonneg (Int.natCast_nonneg a)]; rfl
theorem tmod_nat (a b : Nat) : (a : Int).tmod (b : Int) = ((a % b : Nat) : Int) := by rw [Int.tmod_eq_emod_of_nonneg (Int.natCast_nonneg a)]; rfl
set_option maxHeartbeats 400000 in
theorem gmay_any (w : World) (hn : 1 ≤ n ∧ n ≤ 1000) : Calls Tryz.prog 121 #[.int .i64 n, .int .i64 mv] w fun e w' => e = .returned (.bool true) ∧ w = w' := by
  have d1 : (n : Int) ≥ 1 := by omega
  have d2 : (n : Int) ≤ 100000 := by omega
  have d3 : (mv : Int) ≥ 0 := by omega
  clear hn
  go_enter Tryz.func121, Tryz.ntmps121
  go_wp2
  go_ret
  exact ⟨rfl, rfl⟩
set_option maxHeartbeats 400000 in
theorem turned_any (w : World) (hn : 1 ≤ n ∧ n ≤ 1000) (hm : mv ≤ 4398046511104) : Calls Tryz.prog 122 #[.int .i64 n, .int .i64 mv] w fun e w' => e = .returned (.int .i64 (turnN n mv)) ∧ w = w' := by
  obtain ⟨N, hN⟩ : ∃ N, n + 1 = N := ⟨_, rfl⟩
  have w1 : IntKind.i64.wrap ((n : Int) + 1) = (N : Int) := by rw [IntKind.wrap_i64]; omega
  have z1 : ¬ (N : Int) = 0 := by omega
  have z2 : ¬ (n : Int) = 0 := by omega
  obtain ⟨q, hq⟩ : ∃ q, mv / N = q := ⟨_, rfl⟩
  have hq2 : q ≤ mv := by rw [← hq]; exact Nat.div_le_self _ _
  have e1 : (mv : Int).tdiv (N : Int) = (q : Int) := by rw [tdiv_nat, hq]
  have w2 : IntKind.i64.wrap (q : Int) = (q : Int) := by rw [IntKind.wrap_i64]; omega
  obtain ⟨r, hr⟩ : ∃ r, q % n = r := ⟨_, rfl⟩
  have hr2 : r ≤ q := by rw [← hr]; exact Nat.mod_le _ _
  have e2 : (q : Int).tmod (n : Int) = (r : Int) := by rw [tmod_nat, hr]
  have w3 : IntKind.i64.wrap (r : Int) = (r : Int) := by rw [IntKind.wrap_i64]; omega
  have e3 : turnN n mv = r := by unfold turnN; rw [hN, hq, hr]
  have z3 : ¬ N = 0 := by omega
  have z4 : ¬ n = 0 := by omega
  rw [e3]
  clear hn hm hN hq hq2 hr hr2 e3
  go_enter Tryz.func122, Tryz.ntmps122
  go_wp2
  go_ret
  exact ⟨rfl, rfl⟩
set_option maxHeartbeats 400000 in
theorem gap_any (w : World) (hn : 1 ≤ n ∧ n ≤ 1000) (hm : mv ≤ 4398046511104) : Calls Tryz.prog 123 #[.int .i64 n, .int .i64 mv] w fun e w' => e = .returned (.int .i64 (gapN n mv)) ∧ w = w' := by
  have KM := Lib.hid (gmay_any (n := n) (mv := mv) w hn)
  obtain ⟨N, hN⟩ : ∃ N, n + 1 = N := ⟨_, rfl⟩
  have w1 : IntKind.i64.wrap ((n : Int) + 1) = (N : Int) := by rw [IntKind.wrap_i64]; omega
  have z1 : ¬ (N : Int) = 0 := by omega
  have z3 : ¬ N = 0 := by omega
  obtain ⟨r, hr⟩ : ∃ r, mv % N = r := ⟨_, rfl⟩
  have hr2 : r < N := by rw [← hr]; exact Nat.mod_lt _ (by omega)
  have e2 : (mv : Int).tmod (N : Int) = (r : Int) := by rw [tmod_nat, hr]
  have w3 : IntKind.i64.wrap (r : Int) = (r : Int) := by rw [IntKind.wrap_i64]; omega
  obtain ⟨g, hg⟩ : ∃ g, gapN n mv = g := ⟨_, rfl⟩
  have e3 : g = n - r := by rw [← hg]; unfold gapN; rw [hN, hr]
  have w4 : IntKind.i64.wrap ((n : Int) - (r : Int)) = (g : Int) := by rw [IntKind.wrap_i64]; omega
  rw [hg]
  clear hn hm hN hr hr2 e3 hg
  go_enter Tryz.func123, Tryz.ntmps123
  go_wp2_with (go_at_call 121; refine KM.out.mono ?_; rintro _ _ ⟨rfl, rfl⟩)
  go_ret
  exact ⟨rfl, rfl⟩
set_option maxHeartbeats 800000 in
theorem slot_any (w : World) (hn : 1 ≤ n ∧ n ≤ 1000) (hm : mv ≤ 4398046511104) (x : Nat) (hx : x < n) : Calls Tryz.prog 93 #[.int .i64 n, .int .i64 mv, .int .i64 x] w fun e w' => e = .returned (.int .i64 (slotN n mv x)) ∧ w = w' := by
  have KM := Lib.hid (gmay_any (n := n) (mv := mv) w hn)
  have KT := Lib.hid (turned_any w hn hm)
  have KG := Lib.hid (gap_any w hn hm)
  obtain ⟨t, ht⟩ : ∃ t, turnN n mv = t := ⟨_, rfl⟩
  have ht2 : t < n := by rw [← ht]; exact Nat.mod_lt _ (by omega)
  obtain ⟨g, hg⟩ : ∃ g, gapN n mv = g := ⟨_, rfl⟩
  rw [ht] at KT
  rw [hg] at KG
  obtain ⟨s, hs⟩ : ∃ s, x + t = s := ⟨_, rfl⟩
  have w1 : IntKind.i64.wrap ((x : Int) + (t : Int)) = (s : Int) := by rw [IntKind.wrap_i64]; omega
  obtain ⟨p, hp⟩ : ∃ p, s % n = p := ⟨_, rfl⟩
  have hp2 : p < n := by rw [← hp]; exact Nat.mod_lt _ (by omega)
  have e2 : (s : Int).tmod (n : Int) = (p : Int) := by rw [tmod_nat, hp]
  have w2 : IntKind.i64.wrap (p : Int) = (p : Int) := by rw [IntKind.wrap_i64]; omega
  have w3 : IntKind.i64.wrap ((p : Int) + 1) = ((p + 1 : Nat) : Int) := by rw [IntKind.wrap_i64]; omega
  have z2 : ¬ (n : Int) = 0 := by omega
  have z4 : ¬ n = 0 := by omega
  have d1 : ¬ (x : Int) < 0 := by omega
  have d2 : ¬ (x : Int) ≥ (n : Int) := by omega
  have e3 : slotN n mv x = if g ≤ p then p + 1 else p := by unfold slotN; rw [hg, ht, hs, hp]
  rw [e3]
  by_cases h : g ≤ p
  · have d3 : (p : Int) ≥ (g : Int) := by omega
    rw [if_pos h]
    generalize hP : p + 1 = P at w3
    clear hn hm ht ht2 hg hs hp hp2 e3 h hx hP
    go_enter Tryz.func93, Tryz.ntmps93
    go_wp2_with (first | (go_at_call 121; refine KM.out.mono ?_; rintro _ _ ⟨rfl, rfl⟩) | (go_at_call 122; refine KT.out.mono ?_; rintro _ _ ⟨rfl, rfl⟩) | (go_at_call 123; refine KG.out.mono ?_; rintro _ _ ⟨rfl, rfl⟩))
    go_ret
    exact ⟨rfl, rfl⟩
  · have d3 : ¬ (p : Int) ≥ (g : Int) := by omega
    rw [if_neg h]
    clear hn hm ht ht2 hg hs hp hp2 e3 h hx
    go_enter Tryz.func93, Tryz.ntmps93
    go_wp2_with (first | (go_at_call 121; refine KM.out.mono ?_; rintro _ _ ⟨rfl, rfl⟩) | (go_at_call 122; refine KT.out.mono ?_; rintro _ _ ⟨rfl, rfl⟩) | (go_at_call 123; refine KG.out.mono ?_; rintro _ _ ⟨rfl, rfl⟩))
    go_ret
    exact ⟨rfl, rfl⟩
set_option maxHeartbeats 800000 in
theorem gmove_any (w : World) (hn : 1 ≤ n ∧ n ≤ 1000) (hm : mv ≤ 4398046511104) : Calls Tryz.prog 124 #[.int .i64 n, .int .i64 mv] w fun e w' => e = .returned (.tuple #[.int .i64 (fromN n mv), .int .i64 (gapN n mv)]) ∧ w = w' := by
  have KG := Lib.hid (gap_any w hn hm)
  have hg2 := gapN_le n mv
  unfold fromN
  obtain ⟨g, hg⟩ : ∃ g, gapN n mv = g := ⟨_, rfl⟩
  rw [hg] at KG hg2 ⊢
  by_cases h : g = 0
  · subst h
    rw [if_pos rfl]
    clear hn hm hg hg2
    go_enter Tryz.func124, Tryz.ntmps124
    go_wp2_with (go_at_call 123; refine KG.out.mono ?_; rintro _ _ ⟨rfl, rfl⟩)
    go_ret2
    exact ⟨rfl, rfl⟩
  · rw [if_neg h]
    have d1 : ¬ (g : Int) = -1 := by omega
    have d2 : ¬ (g : Int) = 0 := by omega
    have w1 : IntKind.i64.wrap ((g : Int) - 1) = ((g - 1 : Nat) : Int) := by rw [IntKind.wrap_i64]; omega
    generalize hP : g - 1 = P at w1
    clear hn hm hg hg2 hP
    go_enter Tryz.func124, Tryz.ntmps124
    go_wp2_with (go_at_call 123; refine KG.out.mono ?_; rintro _ _ ⟨rfl, rfl⟩)
    go_ret2
    exact ⟨rfl, rfl⟩
end
end Go.Proofs.YtphmfaddgpjndaaGreat

/- Contracts of package turn: what reads. -/
namespace Go.Proofs.YtphmfaddgpjndaaGreat
open Go.ChangeShapes Go.WideShapes Go.RowKit

/-- how often the gap has moved -/
def MS.mv (m : MS) : Nat := (m.reg 0).toNat
/-- what a line holds -/
def MS.cont (m : MS) (n x : Nat) : List Int := m.line (slotN n m.mv x)
/-- a memory for n lines that go round, none of which has failed -/
structure Good (m : MS) (n spares : Nat) : Prop where
  up : m.down = false
  cut : m.cut ≤ 0
  w0 : 0 ≤ m.writes
  w1 : m.writes ≤ 1000000000000
  we : ∀ j, 0 ≤ m.wear j ∧ m.wear j ≤ m.writes
  r0 : 0 ≤ m.reg 0
  r1 : m.reg 0 ≤ m.writes
  fr : m.fresh spares
  hn : m.n = n + 1 + spares
  n1 : 1 ≤ n ∧ n ≤ 100
  sp : spares ≤ 16
theorem Good.mv {m : MS} {n spares : Nat} (h : Good m n spares) : m.reg 0 = (m.mv : Int) ∧ m.mv ≤ 1000000000000 := by
  have h1 := h.r0
  have h2 := h.r1
  have h3 := h.w1
  unfold MS.mv
  omega
theorem Good.wr {m : MS} {n spares : Nat} (h : Good m n spares) : IntKind.i64.wrap (m.writes + 1) = m.writes + 1 := by
  have h1 := h.w0
  have h3 := h.w1
  rw [IntKind.wrap_i64]; omega
theorem Good.wwe {m : MS} {n spares : Nat} (h : Good m n spares) (j : Nat) : IntKind.i64.wrap (m.wear j + 1) = m.wear j + 1 := by
  have h1 := h.we j
  have h3 := h.w1
  rw [IntKind.wrap_i64]; omega
/-- lines that go round lie in block TU -/
def TurnIn (w : World) (TU LN Mb n period puts : Nat) : Prop := obj w TU = some (.cells #[.pointer (some ⟨Mb, 0, none⟩), .pointer (some ⟨LN, 0, none⟩), .int .i64 n, .int .i64 period, .int .i64 puts] 141 (0, 0))
/-- blocks that are not one another -/
structure TurnAt (w : World) (TU LN Mb Cb n spares period puts : Nat) (m : MS) : Prop where
  hT : TurnIn w TU LN Mb n period puts
  hL : LinesAt w LN Mb (n + 1) spares
  hM : MemAt w Mb Cb m
  per : 1 ≤ period ∧ period ≤ 1000
  pu : puts < period
  ne : TU ≠ LN ∧ TU ≠ Mb ∧ TU ≠ Cb ∧ LN ≠ Mb ∧ LN ≠ Cb
section
variable {w w' : World} {TU LN Mb Cb n spares period puts : Nat} {m : MS}
theorem TurnIn.below (h : TurnIn w TU LN Mb n period puts) (k : Below w.heap.size w w') : TurnIn w' TU LN Mb n period puts := keep k h
theorem TurnAt.kept {L : List Nat} (h : TurnAt w TU LN Mb Cb n spares period puts m) (k : Kept L w w') (h1 : TU ∉ L) (h2 : LN ∉ L) (h3 : Mb ∉ L) (h4 : Cb ∉ L) : TurnAt w' TU LN Mb Cb n spares period puts m :=
  ⟨k.keep h.hT h1, h.hL.kept k h2, h.hM.kept k h3 h4, h.per, h.pu, h.ne⟩
theorem TurnAt.below (h : TurnAt w TU LN Mb Cb n spares period puts m) (k : Below w.heap.size w w') : TurnAt w' TU LN Mb Cb n spares period puts m := h.kept (below_kept k) (by simp) (by simp) (by simp) (by simp)
theorem TurnAt.alloc (h : TurnAt w TU LN Mb Cb n spares period puts m) (o : Obj) : TurnAt (w.alloc o) TU LN Mb Cb n spares period puts m := h.below ((Below.refl _ _).alloc (Nat.le_refl _) _)
set_option maxHeartbeats 400000 in
theorem tlines_in (h : TurnIn w TU LN Mb n period puts) : Calls Tryz.prog 80 #[.pointer (some ⟨TU, 0, none⟩)] w fun e w' => e = .returned (.int .i64 n) ∧ w = w' := by
  have h' : obj w TU = some (.cells #[.pointer (some ⟨Mb, 0, none⟩), .pointer (some ⟨LN, 0, none⟩), .int .i64 n, .int .i64 period, .int .i64 puts] 141 (0, 0)) := h
  clear h
  go_enter Tryz.func80, Tryz.ntmps80
  go_wp2
  go_ret
  exact ⟨rfl, rfl⟩
set_option maxHeartbeats 800000 in
theorem tmay_in (h : TurnIn w TU LN Mb n period puts) (hm : MemAt w Mb Cb m) (hd : m.down = false) (x : Nat) (hx : x < n) : Calls Tryz.prog 91 #[.pointer (some ⟨TU, 0, none⟩), .int .i64 x] w fun e w' => e = .returned (.int .i64 0) ∧ w = w' := by
  have h' : obj w TU = some (.cells #[.pointer (some ⟨Mb, 0, none⟩), .pointer (some ⟨LN, 0, none⟩), .int .i64 n, .int .i64 period, .int .i64 puts] 141 (0, 0)) := h
  have KD := down_in hm
  rw [hd] at KD
  have KD := Lib.hid KD
  have d1 : ¬ (x : Int) < 0 := by omega
  have d2 : ¬ (x : Int) ≥ (n : Int) := by omega
  clear h hm hd hx
  go_enter Tryz.func91, Tryz.ntmps91
  go_wp2_with (go_at_call 87; refine KD.out.mono ?_; rintro _ _ ⟨rfl, rfl⟩)
  go_ret
  exact ⟨rfl, rfl⟩
set_option maxHeartbeats 800000 in
theorem moves_in (h : TurnIn w TU LN Mb n period puts) (hm : MemAt w Mb Cb m) (hg : Good m n spares) : Calls Tryz.prog 94 #[.pointer (some ⟨TU, 0, none⟩)] w fun e w' => e = .returned (.int .i64 m.mv) ∧ w = w' := by
  have h' : obj w TU = some (.cells #[.pointer (some ⟨Mb, 0, none⟩), .pointer (some ⟨LN, 0, none⟩), .int .i64 n, .int .i64 period, .int .i64 puts] 141 (0, 0)) := h
  have KR : Calls Tryz.prog 53 #[.pointer (some ⟨Mb, 0, none⟩), .int .i64 0] w _ := reg_in hm hg.up 0 (by decide)
  obtain ⟨e1, e2⟩ := hg.mv
  rw [e1] at KR
  have KR := Lib.hid KR
  generalize m.mv = mv at KR e2 ⊢
  have w1 : IntKind.i64.wrap (mv : Int) = (mv : Int) := by rw [IntKind.wrap_i64]; omega
  clear h hm hg e1 e2
  go_enter Tryz.func94, Tryz.ntmps94
  go_wp2_with (go_at_call 53; refine KR.out.mono ?_; rintro _ _ ⟨rfl, rfl⟩)
  go_ret
  exact ⟨rfl, rfl⟩
set_option maxRecDepth 100000 in
set_option maxHeartbeats 1600000 in
theorem tget_in (h : TurnAt w TU LN Mb Cb n spares period puts m) (hg : Good m n spares) (x : Nat) (hx : x < n) :
    Calls Tryz.prog 56 #[.pointer (some ⟨TU, 0, none⟩), .int .i64 x] w fun e w' => e = .returned (.tuple #[.agg (cs (m.cont n x)), .int .i64 0]) ∧ Below w.heap.size w w' := by
  have hA := h.alloc (.cells z8 91)
  have K1 := Lib.hid (tmay_in hA.hT hA.hM hg.up x hx)
  have HA := Lib.hid hA
  have HG := Lib.hid hg
  have HX := Lib.hid hx
  have hlen : (m.cont n x).length = 8 := h.hM.len _ (by have := slotN_le (n := n) (mv := m.mv) (x := x) (by omega); rw [hg.hn]; omega)
  have HZ := Lib.hid (newA w (.cells z8 91))
  have HLEN := Lib.hid hlen
  have hT : obj (w.alloc (.cells z8 91)) TU = some (.cells #[.pointer (some ⟨Mb, 0, none⟩), .pointer (some ⟨LN, 0, none⟩), .int .i64 n, .int .i64 period, .int .i64 puts] 141 (0, 0)) := hA.hT
  have HT := Lib.hid hT
  obtain ⟨s, hs⟩ : ∃ s, slotN n m.mv x = s := ⟨_, rfl⟩
  have hs2 : s < n + 1 := by rw [← hs]; have := slotN_le (n := n) (mv := m.mv) (x := x) (by omega); omega
  obtain ⟨l, hl⟩ : ∃ l, m.cont n x = l := ⟨_, rfl⟩
  have hl2 : m.line s = l := by rw [← hs]; exact hl
  have HB0 : Hid (Below w.heap.size w (w.alloc (.cells z8 91))) := Lib.hid ((Below.refl _ _).alloc (Nat.le_refl _) _)
  rw [hl] at hlen HLEN ⊢
  have HS := Lib.hid (And.intro hs (And.intro hs2 hl2))
  have hsz : w.heap.size < (w.alloc (.cells z8 91)).heap.size := by simp
  have HSZ := Lib.hid hsz
  clear h hA hg hx hT hs hs2 hl hl2 hsz
  go_enter Tryz.func56, Tryz.ntmps56
  go_wp2_with fail
  refine K1.out.mono ?_
  rintro _ _ ⟨rfl, rfl⟩
  generalize w.alloc (.cells z8 91) = w1 at HA HZ HT HB0 HSZ ⊢
  clear K1
  have hT := HT.out
  have b1 := lt_of_obj hT
  have b2 := HSZ.out
  have KM : ∀ y, Calls Tryz.prog 94 #[.pointer (some ⟨TU, 0, none⟩)] (more w1 y) fun e w'' => e = .returned (.int .i64 m.mv) ∧ ∃ z, w'' = more w1 z := fun y =>
    (moves_in (HA.out.hT.below (more_below w1 y)) (HA.out.hM.below (more_below w1 y)) HG.out).mono fun _ _ ⟨e, hw⟩ => ⟨e, y, hw.symm⟩
  have KS : ∀ y, Calls Tryz.prog 93 #[.int .i64 n, .int .i64 m.mv, .int .i64 x] (more w1 y) fun e w'' => e = .returned (.int .i64 s) ∧ ∃ z, w'' = more w1 z := fun y =>
    (slot_any (more w1 y) ⟨HG.out.n1.1, by have := HG.out.n1.2; omega⟩ (by have := HG.out.mv.2; omega) x HX.out).mono fun _ _ ⟨e, hw⟩ => ⟨by rw [e, HS.out.1], y, hw.symm⟩
  have KG : ∀ y, Calls Tryz.prog 92 #[.pointer (some ⟨LN, 0, none⟩), .int .i64 s] (more w1 y) fun e w'' => e = .returned (.tuple #[.agg (cs l), .int .i64 0]) ∧ ∃ z, w'' = more w1 z := fun y =>
    more_call (by
      have := lget_in (HA.out.hM.below (more_below w1 y)) HG.out.up (HA.out.hL.below (more_below w1 y)) HG.out.sp HG.out.fr s HS.out.2.1 (by have := HG.out.n1.2; omega) (by rw [HG.out.hn]; omega)
      rw [HS.out.2.2] at this
      exact this)
  have KM := Lib.hid KM
  have KS := Lib.hid KS
  have KG := Lib.hid KG
  generalize m.mv = mv at KM KS
  clear HG HX
  go_wp2_with fail
  refine wp_region_more_tail 15 (by kernel_rfl) (by kernel_rfl) (by kernel_rfl) ?_
  simp only [List.take_succ_cons, List.take_zero, List.drop_succ_cons, List.drop_zero]
  repeat (go_big_quiet_step ((first | (go_at_call 94; exact KM.out _) | (go_at_call 93; exact KS.out _) | (go_at_call 92; exact KG.out _))))
  refine wpQuiet_nil ?_
  intro _ hw'
  obtain ⟨y, hw''⟩ := hw'
  subst hw''
  have q := keep (more_below w1 y) HZ.out
  have HB := Lib.hid (HB0.out.trans ((more_below w1 y).mono HB0.out.size))
  clear HA KM KS KG hT HT b1 HZ b2
  change wpList _ _ _ _ _ (more w1 y)
  generalize more w1 y = w2 at q HB ⊢
  go_wp2_with fail
  refine ret_row2 rfl rfl (Tryz.isAgg91 _) (size91 _) (c := cs l) ?_ rfl rfl ⟨rfl, ?_⟩
  · rw [sz91]
    simp [go_sem, q, hlen]
  · exact setRow_below HB.out (Nat.le_refl _) _
end
end Go.Proofs.YtphmfaddgpjndaaGreat

/- Contracts of package turn: move, Put. -/
namespace Go.Proofs.YtphmfaddgpjndaaGreat
open Go.ChangeShapes Go.WideShapes Go.RowKit

/-! ### plain: what a write makes of a memory -/
section
variable {m : MS} {n spares : Nat}
theorem put_line (hc : m.cut = -1) (j : Nat) (l : List Int) (hl : l.length = 8) : (m.put j l).line = updF m.line j l := by
  unfold MS.put MS.mk'
  rw [if_neg (by omega)]
  simp only [mix_all _ l hl]
theorem put_tells (hc : m.cut = -1) : m.tells = 0 := by unfold MS.tells; rw [if_neg (by omega)]
theorem Good.put (h : Good m n spares) (hc : m.cut = -1) (hw : m.writes + 1 ≤ 1000000000000) (j : Nat) (l : List Int) : Good (m.put j l) n spares := by
  have e : (m.put j l).writes = m.writes + 1 := rfl
  refine ⟨?_, ?_, ?_, ?_, fun i => ?_, h.r0, ?_, h.fr, h.hn, h.n1, h.sp⟩
  · show decide (m.cut = 0) = false
    rw [hc]; rfl
  · show m.cut ≤ 0
    omega
  · rw [e]; have := h.w0; omega
  · rw [e]; exact hw
  · rw [e]
    show 0 ≤ updF m.wear j (m.wear j + 1) i ∧ updF m.wear j (m.wear j + 1) i ≤ _
    have h1 := h.we i
    have h2 := h.we j
    unfold updF; split <;> omega
  · rw [e]; have := h.r1; show m.reg 0 ≤ _; omega
theorem Good.set0 (h : Good m n spares) (hc : m.cut = -1) (hw : m.writes + 1 ≤ 1000000000000) (v : Int) (h0 : 0 ≤ v) (h1 : v ≤ m.writes + 1) : Good (m.set 0 v) n spares := by
  have e : (m.set 0 v).writes = m.writes + 1 := rfl
  have em : m.mk' = -1 := by unfold MS.mk'; rw [if_neg (by omega)]
  have er : (m.set 0 v).reg = updF m.reg 0 v := by unfold MS.set; rw [em]; rfl
  refine ⟨?_, ?_, ?_, ?_, fun i => ?_, ?_, ?_, fun i hi => ?_, h.hn, h.n1, h.sp⟩
  · show decide (m.cut = 0) = false
    rw [hc]; rfl
  · show m.cut ≤ 0
    omega
  · rw [e]; have := h.w0; omega
  · rw [e]; exact hw
  · rw [e]; have := h.we i; show 0 ≤ m.wear i ∧ m.wear i ≤ _; omega
  · rw [er, updF_same]; exact h0
  · rw [er, updF_same, e]; exact h1
  · rw [er, updF_ne _ _ _ (by omega)]; exact h.fr i hi
/-- a register other than the first one written -/
theorem Good.setR (h : Good m n spares) (hc : m.cut = -1) (hw : m.writes + 1 ≤ 1000000000000) (i : Nat) (v : Int) (h0 : i ≠ 0) (hf : i < 3 ∨ 3 + spares ≤ i) : Good (m.set i v) n spares ∧ (m.set i v).reg = updF m.reg i v ∧ (m.set i v).mv = m.mv ∧ (m.set i v).line = m.line := by
  have e : (m.set i v).writes = m.writes + 1 := rfl
  have em : m.mk' = -1 := by unfold MS.mk'; rw [if_neg (by omega)]
  have er : (m.set i v).reg = updF m.reg i v := by unfold MS.set; rw [em]; rfl
  have e0 : (m.set i v).reg 0 = m.reg 0 := by rw [er, updF_ne _ _ _ (Ne.symm h0)]
  refine ⟨⟨?_, ?_, ?_, ?_, fun k => ?_, ?_, ?_, fun k hk => ?_, h.hn, h.n1, h.sp⟩, er, by unfold MS.mv; rw [e0], rfl⟩
  · show decide (m.cut = 0) = false
    rw [hc]; rfl
  · show m.cut ≤ 0
    omega
  · rw [e]; have := h.w0; omega
  · rw [e]; exact hw
  · rw [e]; have := h.we k; show 0 ≤ m.wear k ∧ m.wear k ≤ _; omega
  · rw [e0]; exact h.r0
  · rw [e0, e]; have := h.r1; omega
  · rw [er, updF_ne _ _ _ (by omega)]; exact h.fr k hk
/-- the memory behind a move -/
def MS.moved (m : MS) (n : Nat) : MS := (m.put (gapN n m.mv) (m.line (fromN n m.mv))).set 0 ((m.mv + 1 : Nat) : Int)
theorem moved_reg (hc : m.cut = -1) : (m.moved n).reg = updF m.reg 0 ((m.mv + 1 : Nat) : Int) := by
  have em : (m.put (gapN n m.mv) (m.line (fromN n m.mv))).mk' = -1 := by
    unfold MS.mk'
    rw [if_neg (by show ¬ m.cut = 0; omega)]
  unfold MS.moved MS.set
  rw [em]; rfl
theorem Good.moved (h : Good m n spares) (hc : m.cut = -1) (hw : m.writes + 2 ≤ 1000000000000) : Good (m.moved n) n spares := by
  have h1 := h.put hc (by omega) (gapN n m.mv) (m.line (fromN n m.mv))
  have h2 := h.mv
  have h3 := h.r1
  refine h1.set0 hc ?_ _ (Int.natCast_nonneg _) ?_
  · show m.writes + 1 + 1 ≤ _; omega
  · show _ ≤ m.writes + 1 + 1; omega
theorem moved_mv (hc : m.cut = -1) : (m.moved n).mv = m.mv + 1 := by
  unfold MS.mv
  rw [moved_reg hc, updF_same, Int.toNat_natCast]
  rfl
/-- each line holds what it held -/
theorem moved_cont (h : Good m n spares) (hc : m.cut = -1) (hlen : (m.line (fromN n m.mv)).length = 8) (x : Nat) : (m.moved n).cont n x = m.cont n x := by
  unfold MS.cont
  rw [moved_mv hc, slotN_move (by have := h.n1; omega)]
  have e : (m.moved n).line = updF m.line (gapN n m.mv) (m.line (fromN n m.mv)) := put_line hc _ _ hlen
  rw [e]
  by_cases h1 : slotN n m.mv x = fromN n m.mv
  · rw [if_pos h1, updF_same, h1]
  · rw [if_neg h1, updF_ne _ _ _ slotN_ne]
/-- a line written: it holds that, each other one what it held -/
theorem put_cont (h : Good m n spares) (hc : m.cut = -1) (x : Nat) (hx : x < n) (l : List Int) (hl : l.length = 8) (y : Nat) (hy : y < n) : (m.put (slotN n m.mv x) l).cont n y = updF (m.cont n) x l y := by
  have e : (m.put (slotN n m.mv x) l).mv = m.mv := rfl
  unfold MS.cont
  rw [e, put_line hc _ _ hl]
  by_cases h1 : y = x
  · subst h1; rw [updF_same, updF_same]
  · rw [updF_ne _ _ _ h1, updF_ne _ _ _ (fun h2 => h1 (slotN_inj hy hx h2))]
end

section
variable {w w' : World} {TU LN Mb Cb n spares period puts : Nat} {m : MS}
set_option maxRecDepth 100000 in
set_option maxHeartbeats 3200000 in
theorem tmove_in (h : TurnAt w TU LN Mb Cb n spares period puts m) (hg : Good m n spares) (hc : m.cut = -1) (hw : m.writes + 2 ≤ 1000000000000) :
    Calls Tryz.prog 95 #[.pointer (some ⟨TU, 0, none⟩)] w fun e w' => e = .returned (.int .i64 0) ∧ MemAt w' Mb Cb (m.moved n) ∧ Kept [Mb, Cb] w w' := by
  have K1 := Lib.hid (moves_in h.hT h.hM hg)
  have K2 := Lib.hid (gmove_any w ⟨hg.n1.1, by have := hg.n1.2; omega⟩ (mv := m.mv) (by have := hg.mv.2; omega))
  have hfr := fromN_le (n := n) (mv := m.mv)
  have hga := gapN_le n m.mv
  have hn2 := hg.n1.2
  have K3 := lget_in h.hM hg.up h.hL hg.sp hg.fr (fromN n m.mv) (by omega) (by omega) (by rw [hg.hn]; omega)
  have hlen := h.hM.len (fromN n m.mv) (by rw [hg.hn]; omega)
  have hT : obj w TU = some (.cells #[.pointer (some ⟨Mb, 0, none⟩), .pointer (some ⟨LN, 0, none⟩), .int .i64 n, .int .i64 period, .int .i64 puts] 141 (0, 0)) := h.hT
  have HH := Lib.hid h
  have HG := Lib.hid hg
  have HC := Lib.hid hc
  have HW := Lib.hid hw
  obtain ⟨mv, hmv⟩ : ∃ mv, m.mv = mv := ⟨_, rfl⟩
  obtain ⟨fr, hfr2⟩ : ∃ fr, fromN n mv = fr := ⟨_, rfl⟩
  obtain ⟨ga, hga2⟩ : ∃ ga, gapN n mv = ga := ⟨_, rfl⟩
  obtain ⟨l, hl⟩ : ∃ l, m.line fr = l := ⟨_, rfl⟩
  rw [hmv] at K1 K2 K3 hfr hga hlen
  rw [hfr2] at K2 K3 hfr hlen
  rw [hga2] at K2 hga
  rw [hl] at K3 hlen
  have HV := Lib.hid (And.intro hmv (And.intro hfr2 (And.intro hga2 hl)))
  have HGA := Lib.hid hga
  have HLEN := Lib.hid hlen
  have K3 := Lib.hid K3
  have m1 := (hg.mv).2
  rw [hmv] at m1
  have w2 : IntKind.u64.wrap (mv : Int) = (mv : Int) := by rw [IntKind.wrap_u64]; omega
  have w3 : IntKind.u64.wrap ((mv : Int) + 1) = ((mv + 1 : Nat) : Int) := by rw [IntKind.wrap_u64]; omega
  generalize hM1 : mv + 1 = M1 at w3
  have HM1 := Lib.hid hM1
  have HT := Lib.hid hT
  clear h hg hc hw hmv hfr2 hga2 hl hfr hga hn2 m1 hM1
  go_enter Tryz.func95, Tryz.ntmps95
  go_wp2_with fail
  refine K1.out.mono ?_
  rintro _ _ ⟨rfl, rfl⟩
  go_wp2_with fail
  refine K2.out.mono ?_
  rintro _ _ ⟨rfl, rfl⟩
  go_wp2_with fail
  refine K3.out.mono ?_
  rintro _ w1 ⟨rfl, hb⟩
  have HB := Lib.hid hb
  clear K1 K2 K3 hb hT
  have hT1 : obj (w1.alloc (.cells (cs l) 91)) TU = some (.cells #[.pointer (some ⟨Mb, 0, none⟩), .pointer (some ⟨LN, 0, none⟩), .int .i64 n, .int .i64 period, .int .i64 puts] 141 (0, 0)) := keepA _ (keep HB.out HT.out)
  have hT0 := keep HB.out HT.out
  have b0 := lt_of_obj hT0
  go_wp2_with fail
  have HK : Hid (Below w.heap.size w (w1.alloc (.cells (cs l) 91))) := Lib.hid (HB.out.alloc HB.out.size _)
  have HN : Hid (obj (w1.alloc (.cells (cs l) 91)) w1.heap.size = some (.cells (cs l) 91)) := Lib.hid (newA w1 _)
  have HSZ : Hid (w1.heap.size < (w1.alloc (.cells (cs l) 91)).heap.size) := Lib.hid (by simp)
  generalize hbl : w1.heap.size = bl at HN HSZ ⊢
  clear hbl hT0 b0
  generalize w1.alloc (.cells (cs l) 91) = w2 at HK HN HSZ hT1 ⊢
  have q := HN.out
  have b1 := HSZ.out
  have b2 := lt_of_obj hT1
  refine wp_region_more_tail 6 (by kernel_rfl) (by kernel_rfl) (by kernel_rfl) ?_
  simp only [List.take_succ_cons, List.take_zero, List.drop_succ_cons, List.drop_zero]
  repeat (go_big_quiet_step ((fail)))
  refine wpQuiet_nil ?_
  intro _ hw'
  obtain ⟨y, hw''⟩ := hw'
  subst hw''
  have HK2 := Lib.hid (HK.out.trans ((more_below w2 y).mono HK.out.size))
  have hTT := HH.out.below HK2.out
  have K4 := lput_in hTT.hM HG.out.up HG.out.cut HG.out.wr hTT.hL HG.out.sp HG.out.fr ga (by have := HGA.out; omega) (by have := HG.out.n1.2; omega) (by rw [HG.out.hn]; omega) (HG.out.wwe ga) l HLEN.out
  rw [put_tells HC.out] at K4
  have K4 := Lib.hid K4
  have HT2 := Lib.hid hTT.hT
  clear hTT q hT1 b1 b2 HN HSZ hlen
  change wpList _ _ _ _ _ (more w2 y)
  generalize more w2 y = w3' at HK2 K4 HT2 ⊢
  go_wp2_with fail
  refine K4.out.mono ?_
  rintro _ w4 ⟨rfl, hm, hk⟩
  have hT4 : obj w4 TU = some (.cells #[.pointer (some ⟨Mb, 0, none⟩), .pointer (some ⟨LN, 0, none⟩), .int .i64 n, .int .i64 period, .int .i64 puts] 141 (0, 0)) := hk.keep HT2.out (by have := HH.out.ne; simp; omega)
  have HG4 := HG.out.put HC.out (by have := HW.out; omega) ga l
  have K5 : Calls Tryz.prog 115 #[.pointer (some ⟨Mb, 0, none⟩), .int .i64 0, .int .u64 M1] w4 _ := set_in hm HG4.up HG4.cut HG4.wr 0 (by decide) M1
  have e5 : (m.put ga l).tells = 0 := put_tells HC.out
  have e6 : (m.put ga l).set 0 (M1 : Int) = m.moved n := by
    unfold MS.moved
    rw [HV.out.1, HV.out.2.1, HV.out.2.2.1, HV.out.2.2.2, HM1.out]
  rw [e5, e6] at K5
  have K5 := Lib.hid K5
  have HK4 := Lib.hid ((Kept.of_below (L := [Mb, Cb]) HK2.out).trans hk)
  clear hm hk K4 HG4 e5 e6
  go_wp2_with fail
  refine K5.out.mono ?_
  rintro _ w5 ⟨rfl, hm, hk⟩
  have HM5 := Lib.hid hm
  have HK5 := Lib.hid (HK4.out.next hk (by intro x hx; left; simp at hx ⊢; exact Or.inl hx))
  clear hm hk K5 HK4 hT4
  go_wp2
  go_ret
  exact ⟨rfl, HM5.out, HK5.out⟩
end
end Go.Proofs.YtphmfaddgpjndaaGreat

/- Contracts of package turn: Put, New. (Printed by wip/d/genL.py.) -/
namespace Go.Proofs.YtphmfaddgpjndaaGreat
open Go.ChangeShapes Go.WideShapes Go.RowKit

/-- a memory behind at most k writes more -/
structure Goes (m m' : MS) (n spares : Nat) (k : Int) : Prop where
  good : Good m' n spares
  cut : m'.cut = -1
  regs : ∀ i, i ≠ 0 → m'.reg i = m.reg i
  wr : m.writes ≤ m'.writes ∧ m'.writes ≤ m.writes + k
section
variable {w w' : World} {TU LN Mb Cb n spares period puts : Nat} {m : MS}
theorem TurnIn.setPuts (h : TurnIn w TU LN Mb n period puts) (p : Nat) : TurnIn (w.setCell ⟨TU, 4, none⟩ (.int .i64 p)) TU LN Mb n period p := by
  unfold TurnIn
  rw [obj_setCell_eq, h]; rfl
theorem TurnAt.setPuts (h : TurnAt w TU LN Mb Cb n spares period puts m) (p : Nat) (hp : p < period) : TurnAt (w.setCell ⟨TU, 4, none⟩ (.int .i64 p)) TU LN Mb Cb n spares period p m := by
  have k : Kept [TU] w (w.setCell ⟨TU, 4, none⟩ (.int .i64 p)) := (Kept.refl _ _).setCell _ (Or.inl (by simp))
  have hne := h.ne
  exact ⟨h.hT.setPuts p, h.hL.kept k (by simp; omega), h.hM.kept k (by simp; omega) (by simp; omega), h.per, hp, h.ne⟩
set_option maxRecDepth 100000 in
set_option maxHeartbeats 6400000 in
theorem tput_in (h : TurnAt w TU LN Mb Cb n spares period puts m) (hg : Good m n spares) (hc : m.cut = -1) (hw : m.writes + 3 ≤ 1000000000000) (x : Nat) (hx : x < n) (l : List Int) (hlen : l.length = 8) :
    Calls Tryz.prog 58 #[.pointer (some ⟨TU, 0, none⟩), .int .i64 x, .agg (cs l)] w fun e w' => ∃ m' p', e = .returned (.int .i64 0) ∧ TurnAt w' TU LN Mb Cb n spares period p' m' ∧ Goes m m' n spares 3 ∧ (∀ y, y < n → m'.cont n y = updF (m.cont n) x l y) ∧ Kept [Mb, Cb, TU] w w' := by
  have hA := h.alloc (.cells (cs l) 91)
  have K1 := Lib.hid (tmay_in hA.hT hA.hM hg.up x hx)
  have HN := Lib.hid (newA w (.cells (cs l) 91))
  have HK : Hid (Kept [Mb, Cb, TU] w (w.alloc (.cells (cs l) 91))) := Lib.hid ((Kept.refl _ _).alloc _)
  have HSZ : Hid (w.heap.size < (w.alloc (.cells (cs l) 91)).heap.size) := Lib.hid (by simp)
  have HA := Lib.hid hA
  have HG := Lib.hid hg
  have HC := Lib.hid hc
  have HW := Lib.hid hw
  have HX := Lib.hid hx
  have HLEN := Lib.hid hlen
  have HFR : Hid ((m.line (fromN n m.mv)).length = 8) := Lib.hid (h.hM.len _ (by have := fromN_le (n := n) (mv := m.mv); rw [hg.hn]; omega))
  obtain ⟨p1, hp1⟩ : ∃ p1, puts + 1 = p1 := ⟨_, rfl⟩
  have HNE : Hid (w.heap.size ≠ TU) := Lib.hid (by have := lt_of_obj h.hT; omega)
  have hpu := h.pu
  have hper := h.per
  have w1 : IntKind.i64.wrap ((puts : Int) + 1) = (p1 : Int) := by rw [IntKind.wrap_i64]; omega
  have HP1 := Lib.hid (show p1 ≤ period by omega)
  have hne := h.ne
  clear h hg hc hw hx hlen hA
  go_enter Tryz.func58, Tryz.ntmps58
  go_wp2_with fail
  refine K1.out.mono ?_
  rintro _ _ ⟨rfl, rfl⟩
  have hT0 : obj (w.alloc (.cells (cs l) 91)) TU = some (.cells #[.pointer (some ⟨Mb, 0, none⟩), .pointer (some ⟨LN, 0, none⟩), .int .i64 n, .int .i64 period, .int .i64 puts] 141 (0, 0)) := HA.out.hT
  generalize w.alloc (.cells (cs l) 91) = w1 at HA HN HK HSZ hT0 ⊢
  generalize w.heap.size = bl at HN HSZ HNE ⊢
  clear K1
  have HA2 : Hid (TurnIn (w1.setCell ⟨TU, 4, none⟩ (.int .i64 p1)) TU LN Mb n period p1) := Lib.hid (HA.out.hT.setPuts p1)
  have k1 : Kept [TU] w1 (w1.setCell ⟨TU, 4, none⟩ (.int .i64 p1)) := (Kept.refl _ _).setCell _ (Or.inl (by simp))
  have HL2 : Hid (LinesAt (w1.setCell ⟨TU, 4, none⟩ (.int .i64 p1)) LN Mb (n + 1) spares) := Lib.hid (HA.out.hL.kept k1 (by simp; omega))
  have HM2 : Hid (MemAt (w1.setCell ⟨TU, 4, none⟩ (.int .i64 p1)) Mb Cb m) := Lib.hid (HA.out.hM.kept k1 (by simp; omega) (by simp; omega))
  have HN2 : Hid (obj (w1.setCell ⟨TU, 4, none⟩ (.int .i64 p1)) bl = some (.cells (cs l) 91)) := Lib.hid (k1.keep HN.out (by have := HNE.out; simp; exact this))
  have HK2 : Hid (Kept [Mb, Cb, TU] w (w1.setCell ⟨TU, 4, none⟩ (.int .i64 p1))) := Lib.hid (HK.out.setCell _ (Or.inl (by simp)))
  have HSZ2 : Hid (bl < (w1.setCell ⟨TU, 4, none⟩ (.int .i64 p1)).heap.size) := Lib.hid (by have := HSZ.out; simpa using this)
  have HNEs := Lib.hid (And.intro hne hper)
  clear k1 HA HN hne hper hpu HSZ
  go_wp2_with fail
  generalize w1.setCell ⟨TU, 4, none⟩ (.int .i64 p1) = w2 at HA2 HL2 HM2 HN2 HK2 HSZ2 ⊢
  have hT2 : obj w2 TU = some (.cells #[.pointer (some ⟨Mb, 0, none⟩), .pointer (some ⟨LN, 0, none⟩), .int .i64 n, .int .i64 period, .int .i64 p1] 141 (0, 0)) := HA2.out
  clear hT0
  by_cases hp : p1 = period
  · have dp : (p1 : Int) = (period : Int) := by omega
    have hP := Lib.hid hp
    have hP1 := Lib.hid hp1
    clear hp hp1
    go_quiet (fail)
    have k3 : Kept [TU] w2 ((w2.drewN nq).setCell ⟨TU, 4, none⟩ (.int .i64 (0 : Nat))) := ((Kept.refl [TU] w2).drawn nq).setCell _ (Or.inl (by simp))
    have HT3 : TurnAt ((w2.drewN nq).setCell ⟨TU, 4, none⟩ (.int .i64 (0 : Nat))) TU LN Mb Cb n spares period 0 m :=
      ⟨TurnIn.setPuts (w := w2.drewN nq) HA2.out 0, HL2.out.kept k3 (by have := HNEs.out; simp; omega), HM2.out.kept k3 (by have := HNEs.out; simp; omega) (by have := HNEs.out; simp; omega), HNEs.out.2, by have := HNEs.out; omega, HNEs.out.1⟩
    have HN3 : Hid (obj ((w2.drewN nq).setCell ⟨TU, 4, none⟩ (.int .i64 (0 : Nat))) bl = some (.cells (cs l) 91)) := Lib.hid (k3.keep HN2.out (by have := HNE.out; simp; exact this))
    have HK3 : Hid (Kept [Mb, Cb, TU] w ((w2.drewN nq).setCell ⟨TU, 4, none⟩ (.int .i64 (0 : Nat)))) := Lib.hid ((HK2.out.drawn nq).setCell _ (Or.inl (by simp)))
    have KV := Lib.hid (tmove_in HT3 HG.out HC.out (by have := HW.out; omega))
    have HT3 := Lib.hid HT3
    clear k3 HL2 HM2 HA2 HN2 HK2
    go_wp2_with fail
    refine KV.out.mono ?_
    rintro _ w3 ⟨rfl, hm, hk⟩
    have HTn : Hid (TurnAt w3 TU LN Mb Cb n spares period 0 (m.moved n)) := Lib.hid ⟨hk.keep HT3.out.hT (by have := HNEs.out; simp; omega), HT3.out.hL.kept hk (by have := HNEs.out; simp; omega), hm, HT3.out.per, HT3.out.pu, HT3.out.ne⟩
    have hbl : bl ≠ Mb ∧ bl ≠ Cb := ⟨fun e => by have h1 := HN3.out; rw [e] at h1; obtain ⟨c, h2, h3, _⟩ := HT3.out.hM.hM; rw [h1] at h2; simp at h2, fun e => by have h1 := HN3.out; rw [e] at h1; obtain ⟨c, h2, h3, _⟩ := HT3.out.hM.hL; rw [h1] at h2; simp at h2⟩
    have HNn : Hid (obj w3 bl = some (.cells (cs l) 91)) := Lib.hid (hk.keep HN3.out (by simp; exact hbl))
    have HKn := Lib.hid (HK3.out.next hk (by intro x hx; left; simp at hx ⊢; omega))
    have HGn := Lib.hid (HG.out.moved HC.out (by have := HW.out; omega))
    have HCn : Hid ((m.moved n).cut = -1) := Lib.hid HC.out
    have HWn : Hid ((m.moved n).writes = m.writes + 2 ∧ m.writes + 3 ≤ 1000000000000) := Lib.hid ⟨by show m.writes + 1 + 1 = _; omega, HW.out⟩
    clear hm hk hbl HT3 HN3 HK3 KV hT2
    have hT := HTn.out.hT
    have hT : obj w3 TU = some (.cells #[.pointer (some ⟨Mb, 0, none⟩), .pointer (some ⟨LN, 0, none⟩), .int .i64 n, .int .i64 period, .int .i64 0] 141 (0, 0)) := hT
    have b1 := lt_of_obj hT
    have q := HNn.out
    have b2 := lt_of_obj q
    have KM : ∀ y, Calls Tryz.prog 94 #[.pointer (some ⟨TU, 0, none⟩)] (more w3 y) fun e w'' => e = .returned (.int .i64 (m.moved n).mv) ∧ ∃ z, w'' = more w3 z := fun y =>
      (moves_in (HTn.out.hT.below (more_below w3 y)) (HTn.out.hM.below (more_below w3 y)) HGn.out).mono fun _ _ ⟨e, hw⟩ => ⟨e, y, hw.symm⟩
    have KS : ∀ y, Calls Tryz.prog 93 #[.int .i64 n, .int .i64 (m.moved n).mv, .int .i64 x] (more w3 y) fun e w'' => e = .returned (.int .i64 (slotN n (m.moved n).mv x)) ∧ ∃ z, w'' = more w3 z := fun y =>
      (slot_any (more w3 y) ⟨HGn.out.n1.1, by have := HGn.out.n1.2; omega⟩ (by have := HGn.out.mv.2; omega) x HX.out).mono fun _ _ ⟨e, hw⟩ => ⟨e, y, hw.symm⟩
    obtain ⟨s, hs⟩ : ∃ s, slotN n (m.moved n).mv x = s := ⟨_, rfl⟩
    have hs2 : s < n + 1 := by rw [← hs]; have := slotN_le (n := n) (mv := (m.moved n).mv) (x := x) (by have := HX.out; omega); omega
    rw [hs] at KS
    have HS := Lib.hid (And.intro hs hs2)
    have KM := Lib.hid KM
    have KS := Lib.hid KS
    generalize (m.moved n).mv = mv at KM KS
    clear hs hs2
    have hlen := HLEN.out
    go_wp2_with fail
    refine wp_region_more_tail 13 (by kernel_rfl) (by kernel_rfl) (by kernel_rfl) ?_
    simp only [List.take_succ_cons, List.take_zero, List.drop_succ_cons, List.drop_zero]
    repeat (go_big_quiet_step ((first | (go_at_call 94; exact KM.out _) | (go_at_call 93; exact KS.out _))))
    refine wpQuiet_nil ?_
    intro _ hw'
    obtain ⟨y, hw''⟩ := hw'
    subst hw''
    have HT6 := Lib.hid (HTn.out.below (more_below w3 y))
    have HK6 := Lib.hid (HKn.out.more y)
    have K6 := lput_in HT6.out.hM HGn.out.up HGn.out.cut HGn.out.wr HT6.out.hL HGn.out.sp HGn.out.fr s HS.out.2 (by have := HGn.out.n1.2; omega) (by rw [HGn.out.hn]; omega) (HGn.out.wwe s) l HLEN.out
    rw [put_tells HCn.out] at K6
    have K6 := Lib.hid K6
    clear KM KS hT b1 b2 q HTn HKn HNn hlen
    change wpList _ _ _ _ _ (more w3 y)
    generalize more w3 y = w6 at HT6 HK6 K6 ⊢
    go_wp2_with fail
    refine K6.out.mono ?_
    rintro _ w7 ⟨rfl, hm, hk⟩
    have hT7 := hk.keep HT6.out.hT (by have := HT6.out.ne; simp; omega)
    have hL7 := HT6.out.hL.kept hk (by have := HT6.out.ne; simp; omega)
    have HT7 : Hid (TurnAt w7 TU LN Mb Cb n spares period 0 ((m.moved n).put s l)) := Lib.hid ⟨hT7, hL7, hm, HT6.out.per, HT6.out.pu, HT6.out.ne⟩
    have HK7 := Lib.hid (HK6.out.next hk (by intro x hx; left; simp at hx ⊢; omega))
    clear hm hk hT7 hL7 HT6 HK6 K6
    go_wp2
    go_ret
    have hwn := HWn.out
    refine ⟨(m.moved n).put s l, 0, rfl, HT7.out, ⟨HGn.out.put HCn.out (by omega) s l, HCn.out, fun i hi => ?_, ?_⟩, fun y hy => ?_, HK7.out⟩
    · show (m.moved n).reg i = _; rw [moved_reg HC.out, updF_ne _ _ _ hi]
    · have e : ((m.moved n).put s l).writes = (m.moved n).writes + 1 := rfl
      rw [e]; omega
    · rw [← HS.out.1, put_cont HGn.out HCn.out x HX.out l HLEN.out y hy]
      unfold updF
      split
      · rfl
      · exact moved_cont HG.out HC.out HFR.out y
  · have dp : ¬ (p1 : Int) = (period : Int) := by omega
    have hP : Hid (p1 < period) := Lib.hid (by have := HP1.out; omega)
    have hP1 := Lib.hid hp1
    clear hp hp1
    go_quiet (fail)
    have HTn : Hid (TurnAt (w2.drewN nq) TU LN Mb Cb n spares period p1 m) := Lib.hid ⟨HA2.out, HL2.out, HM2.out.drawn nq, HNEs.out.2, hP.out, HNEs.out.1⟩
    have HNn : Hid (obj (w2.drewN nq) bl = some (.cells (cs l) 91)) := HN2
    have HKn := Lib.hid (HK2.out.drawn nq)
    have HGn := HG
    have HCn := HC
    have HWn : Hid (m.writes = m.writes ∧ m.writes + 3 ≤ 1000000000000) := Lib.hid ⟨rfl, HW.out⟩
    generalize w2.drewN nq = w3 at HTn HNn HKn ⊢
    clear HL2 HM2 HA2 HN2 HK2 hT2
    have hT := HTn.out.hT
    have hT : obj w3 TU = some (.cells #[.pointer (some ⟨Mb, 0, none⟩), .pointer (some ⟨LN, 0, none⟩), .int .i64 n, .int .i64 period, .int .i64 p1] 141 (0, 0)) := hT
    have b1 := lt_of_obj hT
    have q := HNn.out
    have b2 := lt_of_obj q
    have KM : ∀ y, Calls Tryz.prog 94 #[.pointer (some ⟨TU, 0, none⟩)] (more w3 y) fun e w'' => e = .returned (.int .i64 (m).mv) ∧ ∃ z, w'' = more w3 z := fun y =>
      (moves_in (HTn.out.hT.below (more_below w3 y)) (HTn.out.hM.below (more_below w3 y)) HGn.out).mono fun _ _ ⟨e, hw⟩ => ⟨e, y, hw.symm⟩
    have KS : ∀ y, Calls Tryz.prog 93 #[.int .i64 n, .int .i64 (m).mv, .int .i64 x] (more w3 y) fun e w'' => e = .returned (.int .i64 (slotN n (m).mv x)) ∧ ∃ z, w'' = more w3 z := fun y =>
      (slot_any (more w3 y) ⟨HGn.out.n1.1, by have := HGn.out.n1.2; omega⟩ (by have := HGn.out.mv.2; omega) x HX.out).mono fun _ _ ⟨e, hw⟩ => ⟨e, y, hw.symm⟩
    obtain ⟨s, hs⟩ : ∃ s, slotN n (m).mv x = s := ⟨_, rfl⟩
    have hs2 : s < n + 1 := by rw [← hs]; have := slotN_le (n := n) (mv := (m).mv) (x := x) (by have := HX.out; omega); omega
    rw [hs] at KS
    have HS := Lib.hid (And.intro hs hs2)
    have KM := Lib.hid KM
    have KS := Lib.hid KS
    generalize (m).mv = mv at KM KS
    clear hs hs2
    have hlen := HLEN.out
    go_wp2_with fail
    refine wp_region_more_tail 13 (by kernel_rfl) (by kernel_rfl) (by kernel_rfl) ?_
    simp only [List.take_succ_cons, List.take_zero, List.drop_succ_cons, List.drop_zero]
    repeat (go_big_quiet_step ((first | (go_at_call 94; exact KM.out _) | (go_at_call 93; exact KS.out _))))
    refine wpQuiet_nil ?_
    intro _ hw'
    obtain ⟨y, hw''⟩ := hw'
    subst hw''
    have HT6 := Lib.hid (HTn.out.below (more_below w3 y))
    have HK6 := Lib.hid (HKn.out.more y)
    have K6 := lput_in HT6.out.hM HGn.out.up HGn.out.cut HGn.out.wr HT6.out.hL HGn.out.sp HGn.out.fr s HS.out.2 (by have := HGn.out.n1.2; omega) (by rw [HGn.out.hn]; omega) (HGn.out.wwe s) l HLEN.out
    rw [put_tells HCn.out] at K6
    have K6 := Lib.hid K6
    clear KM KS hT b1 b2 q HTn HKn HNn hlen
    change wpList _ _ _ _ _ (more w3 y)
    generalize more w3 y = w6 at HT6 HK6 K6 ⊢
    go_wp2_with fail
    refine K6.out.mono ?_
    rintro _ w7 ⟨rfl, hm, hk⟩
    have hT7 := hk.keep HT6.out.hT (by have := HT6.out.ne; simp; omega)
    have hL7 := HT6.out.hL.kept hk (by have := HT6.out.ne; simp; omega)
    have HT7 : Hid (TurnAt w7 TU LN Mb Cb n spares period p1 ((m).put s l)) := Lib.hid ⟨hT7, hL7, hm, HT6.out.per, HT6.out.pu, HT6.out.ne⟩
    have HK7 := Lib.hid (HK6.out.next hk (by intro x hx; left; simp at hx ⊢; omega))
    clear hm hk hT7 hL7 HT6 HK6 K6
    go_wp2
    go_ret
    have hwn := HWn.out
    refine ⟨(m).put s l, p1, rfl, HT7.out, ⟨HGn.out.put HCn.out (by omega) s l, HCn.out, fun i hi => ?_, ?_⟩, fun y hy => ?_, HK7.out⟩
    · rfl
    · have e : ((m).put s l).writes = (m).writes + 1 := rfl
      rw [e]; omega
    · rw [← HS.out.1, put_cont HGn.out HCn.out x HX.out l HLEN.out y hy]
      done
end
end Go.Proofs.YtphmfaddgpjndaaGreat

/- Contracts of package turn: New; move and Put where the power goes at the first write. (Printed by wip/d/genN.py.) -/
namespace Go.Proofs.YtphmfaddgpjndaaGreat
open Go.ChangeShapes Go.WideShapes Go.RowKit

/-- a memory at whose write the power went, no word of it written -/
structure Cutted (m m' : MS) : Prop where
  n : m'.n = m.n
  line : m'.line = m.line
  reg : m'.reg = m.reg
  wr : m'.writes = m.writes + 1
  we : ∀ j, 0 ≤ m'.wear j ∧ m'.wear j ≤ m'.writes
  down : m'.down = true
theorem cut_tells {m : MS} (hc : m.cut = 0) : m.tells = 2 := by unfold MS.tells; rw [if_pos hc]
theorem put_cutted {m : MS} {n spares : Nat} (h : Good m n spares) (hc : m.cut = 0) (hmk : m.mask = 0) (j : Nat) (l : List Int) (hl : (m.line j).length = 8) : Cutted m (m.put j l) := by
  have e : (m.put j l).writes = m.writes + 1 := rfl
  refine ⟨rfl, ?_, rfl, rfl, fun i => ?_, ?_⟩
  · unfold MS.put MS.mk'
    rw [if_pos hc, hmk]
    simp only [mix_none _ l hl]
    exact updF_self _ _
  · rw [e]
    show 0 ≤ updF m.wear j (m.wear j + 1) i ∧ updF m.wear j (m.wear j + 1) i ≤ _
    have h1 := h.we i
    have h2 := h.we j
    unfold updF; split <;> omega
  · show decide (m.cut = 0) = true
    rw [hc]; rfl
section
variable {w w' : World} {TU LN Mb Cb n spares period puts : Nat} {m : MS}
set_option maxHeartbeats 1600000 in
theorem tnew_in (h : MemAt w Mb Cb m) (hg : Good m n spares) (hp : 1 ≤ period ∧ period ≤ 1000) :
    Calls Tryz.prog 89 #[.pointer (some ⟨Mb, 0, none⟩), .int .i64 n, .int .i64 spares, .int .i64 period] w fun e w' => ∃ TU LN, e = .returned (.pointer (some ⟨TU, 0, none⟩)) ∧ TurnAt w' TU LN Mb Cb n spares period 0 m ∧ w.heap.size ≤ TU ∧ w.heap.size ≤ LN ∧ Below w.heap.size w w' := by
  have KL := lines_in h
  obtain ⟨N, hN⟩ : ∃ N, m.n = N := ⟨_, rfl⟩
  rw [hN] at KL
  have hn1 := hg.n1
  have hN2 : N = n + 1 + spares := by rw [← hN]; exact hg.hn
  have d1 : ¬ (n : Int) < 1 := by omega
  have d2 : ¬ (n : Int) > (N : Int) := by omega
  have d3 : ¬ (period : Int) < 1 := by omega
  have d4 : ¬ (period : Int) > 1000 := by omega
  obtain ⟨n1, hn⟩ : ∃ n1, n + 1 = n1 := ⟨_, rfl⟩
  have w1 : IntKind.i64.wrap ((n : Int) + 1) = (n1 : Int) := by rw [IntKind.wrap_i64]; omega
  have KN := lnew_in (slots := n1) (spares := spares) h hg.up hg.sp hg.fr (by omega) (by rw [hg.hn, hn])
  have KL := Lib.hid KL
  have KN := Lib.hid KN
  have HM := Lib.hid h
  have HG := Lib.hid hg
  have HP := Lib.hid hp
  have HN1 := Lib.hid hn
  obtain ⟨e1, e2⟩ := hg.mv
  have HE := Lib.hid e1
  have d5 : ¬ (m.mv : Int) > 1099511627776 := by omega
  generalize m.mv = mv at d5 HE
  clear h hg hp hn hn1 hN2 hN e1 e2
  go_enter Tryz.func89, Tryz.ntmps89
  go_wp2_with fail
  refine KL.out.mono ?_
  rintro _ _ ⟨rfl, rfl⟩
  clear KL
  go_wp2_with fail
  refine KN.out.mono ?_
  rintro _ w1 ⟨LN, rfl, hl, hL, hb⟩
  have KR : Calls Tryz.prog 53 #[.pointer (some ⟨Mb, 0, none⟩), .int .i64 0] w1 _ := reg_in (HM.out.below hb) HG.out.up 0 (by decide)
  rw [HE.out] at KR
  have KR := Lib.hid KR
  have HL := Lib.hid (And.intro hl hL)
  have HB := Lib.hid hb
  clear hl hL hb KN
  go_wp2_with fail
  refine KR.out.mono ?_
  rintro _ _ ⟨rfl, rfl⟩
  go_wp2
  go_ret
  have s1 := HB.out.size
  have s2 := HL.out.2
  have s3 := lt_of_obj HL.out.1
  have m1 := HM.out.hM.lt
  have m2 := HM.out.hL.lt
  refine ⟨w1.heap.size, LN, rfl, ⟨newA w1 _, ?_, (HM.out.below HB.out).alloc _, HP.out, HP.out.1, ⟨by omega, by omega, by omega, by omega, by omega⟩⟩, s1, s2, HB.out.alloc s1 _⟩
  rw [HN1.out]
  exact HL.out.1.below ((Below.refl _ _).alloc (Nat.le_refl _) _)
set_option maxRecDepth 100000 in
set_option maxHeartbeats 3200000 in
theorem tmove_cut (h : TurnAt w TU LN Mb Cb n spares period puts m) (hg : Good m n spares) (hc : m.cut = 0) :
    Calls Tryz.prog 95 #[.pointer (some ⟨TU, 0, none⟩)] w fun e w' => e = .returned (.int .i64 2) ∧ MemAt w' Mb Cb (m.put (gapN n m.mv) (m.line (fromN n m.mv))) ∧ Kept [Mb, Cb] w w' := by
  have K1 := Lib.hid (moves_in h.hT h.hM hg)
  have K2 := Lib.hid (gmove_any w ⟨hg.n1.1, by have := hg.n1.2; omega⟩ (mv := m.mv) (by have := hg.mv.2; omega))
  have hfr := fromN_le (n := n) (mv := m.mv)
  have hga := gapN_le n m.mv
  have hn2 := hg.n1.2
  have K3 := lget_in h.hM hg.up h.hL hg.sp hg.fr (fromN n m.mv) (by omega) (by omega) (by rw [hg.hn]; omega)
  have hlen := h.hM.len (fromN n m.mv) (by rw [hg.hn]; omega)
  have hT : obj w TU = some (.cells #[.pointer (some ⟨Mb, 0, none⟩), .pointer (some ⟨LN, 0, none⟩), .int .i64 n, .int .i64 period, .int .i64 puts] 141 (0, 0)) := h.hT
  have HH := Lib.hid h
  have HG := Lib.hid hg
  have HC := Lib.hid hc
  obtain ⟨mv, hmv⟩ : ∃ mv, m.mv = mv := ⟨_, rfl⟩
  obtain ⟨fr, hfr2⟩ : ∃ fr, fromN n mv = fr := ⟨_, rfl⟩
  obtain ⟨ga, hga2⟩ : ∃ ga, gapN n mv = ga := ⟨_, rfl⟩
  obtain ⟨l, hl⟩ : ∃ l, m.line fr = l := ⟨_, rfl⟩
  rw [hmv] at K1 K2 K3 hfr hga hlen
  rw [hfr2] at K2 K3 hfr hlen
  rw [hga2] at K2 hga
  rw [hl] at K3 hlen
  have HV := Lib.hid (And.intro hmv (And.intro hfr2 (And.intro hga2 hl)))
  have HGA := Lib.hid hga
  have HLEN := Lib.hid hlen
  have K3 := Lib.hid K3
  have m1 := (hg.mv).2
  rw [hmv] at m1
  have w2 : IntKind.u64.wrap (mv : Int) = (mv : Int) := by rw [IntKind.wrap_u64]; omega
  have w3 : IntKind.u64.wrap ((mv : Int) + 1) = ((mv + 1 : Nat) : Int) := by rw [IntKind.wrap_u64]; omega
  generalize hM1 : mv + 1 = M1 at w3
  have HM1 := Lib.hid hM1
  have HT := Lib.hid hT
  clear h hg hc hmv hfr2 hga2 hl hfr hga hn2 m1 hM1
  go_enter Tryz.func95, Tryz.ntmps95
  go_wp2_with fail
  refine K1.out.mono ?_
  rintro _ _ ⟨rfl, rfl⟩
  go_wp2_with fail
  refine K2.out.mono ?_
  rintro _ _ ⟨rfl, rfl⟩
  go_wp2_with fail
  refine K3.out.mono ?_
  rintro _ w1 ⟨rfl, hb⟩
  have HB := Lib.hid hb
  clear K1 K2 K3 hb hT
  have hT1 : obj (w1.alloc (.cells (cs l) 91)) TU = some (.cells #[.pointer (some ⟨Mb, 0, none⟩), .pointer (some ⟨LN, 0, none⟩), .int .i64 n, .int .i64 period, .int .i64 puts] 141 (0, 0)) := keepA _ (keep HB.out HT.out)
  have hT0 := keep HB.out HT.out
  have b0 := lt_of_obj hT0
  go_wp2_with fail
  have HK : Hid (Below w.heap.size w (w1.alloc (.cells (cs l) 91))) := Lib.hid (HB.out.alloc HB.out.size _)
  have HN : Hid (obj (w1.alloc (.cells (cs l) 91)) w1.heap.size = some (.cells (cs l) 91)) := Lib.hid (newA w1 _)
  have HSZ : Hid (w1.heap.size < (w1.alloc (.cells (cs l) 91)).heap.size) := Lib.hid (by simp)
  generalize hbl : w1.heap.size = bl at HN HSZ ⊢
  clear hbl hT0 b0
  generalize w1.alloc (.cells (cs l) 91) = w2 at HK HN HSZ hT1 ⊢
  have q := HN.out
  have b1 := HSZ.out
  have b2 := lt_of_obj hT1
  refine wp_region_more_tail 6 (by kernel_rfl) (by kernel_rfl) (by kernel_rfl) ?_
  simp only [List.take_succ_cons, List.take_zero, List.drop_succ_cons, List.drop_zero]
  repeat (go_big_quiet_step ((fail)))
  refine wpQuiet_nil ?_
  intro _ hw'
  obtain ⟨y, hw''⟩ := hw'
  subst hw''
  have HK2 := Lib.hid (HK.out.trans ((more_below w2 y).mono HK.out.size))
  have hTT := HH.out.below HK2.out
  have K4 := lput_in hTT.hM HG.out.up HG.out.cut HG.out.wr hTT.hL HG.out.sp HG.out.fr ga (by have := HGA.out; omega) (by have := HG.out.n1.2; omega) (by rw [HG.out.hn]; omega) (HG.out.wwe ga) l HLEN.out
  rw [cut_tells HC.out] at K4
  have K4 := Lib.hid K4
  have HT2 := Lib.hid hTT.hT
  clear hTT q hT1 b1 b2 HN HSZ hlen
  change wpList _ _ _ _ _ (more w2 y)
  generalize more w2 y = w3' at HK2 K4 HT2 ⊢
  go_wp2_with fail
  refine K4.out.mono ?_
  rintro _ w4 ⟨rfl, hm, hk⟩
  have HM4 := Lib.hid hm
  have HK4 := Lib.hid ((Kept.of_below (L := [Mb, Cb]) HK2.out).trans hk)
  clear hm hk K4
  go_wp2
  go_ret
  rw [HV.out.1, HV.out.2.1, HV.out.2.2.1, HV.out.2.2.2]
  exact ⟨rfl, HM4.out, HK4.out⟩
set_option maxRecDepth 100000 in
set_option maxHeartbeats 6400000 in
theorem tput_cut (h : TurnAt w TU LN Mb Cb n spares period puts m) (hg : Good m n spares) (hc : m.cut = 0) (hmk : m.mask = 0) (hw : m.writes + 1 ≤ 1000000000000) (x : Nat) (hx : x < n) (l : List Int) (hlen : l.length = 8) :
    Calls Tryz.prog 58 #[.pointer (some ⟨TU, 0, none⟩), .int .i64 x, .agg (cs l)] w fun e w' => ∃ m', e = .returned (.int .i64 2) ∧ MemAt w' Mb Cb m' ∧ Cutted m m' ∧ Kept [Mb, Cb, TU] w w' := by
  have hA := h.alloc (.cells (cs l) 91)
  have K1 := Lib.hid (tmay_in hA.hT hA.hM hg.up x hx)
  have HN := Lib.hid (newA w (.cells (cs l) 91))
  have HK : Hid (Kept [Mb, Cb, TU] w (w.alloc (.cells (cs l) 91))) := Lib.hid ((Kept.refl _ _).alloc _)
  have HSZ : Hid (w.heap.size < (w.alloc (.cells (cs l) 91)).heap.size) := Lib.hid (by simp)
  have HA := Lib.hid hA
  have HG := Lib.hid hg
  have HC := Lib.hid hc
  have HW := Lib.hid hw
  have HMK := Lib.hid hmk
  have HLE := Lib.hid (fun j (hj : j < m.n) => h.hM.len j hj)
  have HX := Lib.hid hx
  have HLEN := Lib.hid hlen
  have HFR : Hid ((m.line (fromN n m.mv)).length = 8) := Lib.hid (h.hM.len _ (by have := fromN_le (n := n) (mv := m.mv); rw [hg.hn]; omega))
  obtain ⟨p1, hp1⟩ : ∃ p1, puts + 1 = p1 := ⟨_, rfl⟩
  have HNE : Hid (w.heap.size ≠ TU) := Lib.hid (by have := lt_of_obj h.hT; omega)
  have hpu := h.pu
  have hper := h.per
  have w1 : IntKind.i64.wrap ((puts : Int) + 1) = (p1 : Int) := by rw [IntKind.wrap_i64]; omega
  have HP1 := Lib.hid (show p1 ≤ period by omega)
  have hne := h.ne
  clear h hg hc hw hmk hx hlen hA
  go_enter Tryz.func58, Tryz.ntmps58
  go_wp2_with fail
  refine K1.out.mono ?_
  rintro _ _ ⟨rfl, rfl⟩
  have hT0 : obj (w.alloc (.cells (cs l) 91)) TU = some (.cells #[.pointer (some ⟨Mb, 0, none⟩), .pointer (some ⟨LN, 0, none⟩), .int .i64 n, .int .i64 period, .int .i64 puts] 141 (0, 0)) := HA.out.hT
  generalize w.alloc (.cells (cs l) 91) = w1 at HA HN HK HSZ hT0 ⊢
  generalize w.heap.size = bl at HN HSZ HNE ⊢
  clear K1
  have HA2 : Hid (TurnIn (w1.setCell ⟨TU, 4, none⟩ (.int .i64 p1)) TU LN Mb n period p1) := Lib.hid (HA.out.hT.setPuts p1)
  have k1 : Kept [TU] w1 (w1.setCell ⟨TU, 4, none⟩ (.int .i64 p1)) := (Kept.refl _ _).setCell _ (Or.inl (by simp))
  have HL2 : Hid (LinesAt (w1.setCell ⟨TU, 4, none⟩ (.int .i64 p1)) LN Mb (n + 1) spares) := Lib.hid (HA.out.hL.kept k1 (by simp; omega))
  have HM2 : Hid (MemAt (w1.setCell ⟨TU, 4, none⟩ (.int .i64 p1)) Mb Cb m) := Lib.hid (HA.out.hM.kept k1 (by simp; omega) (by simp; omega))
  have HN2 : Hid (obj (w1.setCell ⟨TU, 4, none⟩ (.int .i64 p1)) bl = some (.cells (cs l) 91)) := Lib.hid (k1.keep HN.out (by have := HNE.out; simp; exact this))
  have HK2 : Hid (Kept [Mb, Cb, TU] w (w1.setCell ⟨TU, 4, none⟩ (.int .i64 p1))) := Lib.hid (HK.out.setCell _ (Or.inl (by simp)))
  have HSZ2 : Hid (bl < (w1.setCell ⟨TU, 4, none⟩ (.int .i64 p1)).heap.size) := Lib.hid (by have := HSZ.out; simpa using this)
  have HNEs := Lib.hid (And.intro hne hper)
  clear k1 HA HN hne hper hpu HSZ
  go_wp2_with fail
  generalize w1.setCell ⟨TU, 4, none⟩ (.int .i64 p1) = w2 at HA2 HL2 HM2 HN2 HK2 HSZ2 ⊢
  have hT2 : obj w2 TU = some (.cells #[.pointer (some ⟨Mb, 0, none⟩), .pointer (some ⟨LN, 0, none⟩), .int .i64 n, .int .i64 period, .int .i64 p1] 141 (0, 0)) := HA2.out
  clear hT0
  by_cases hp : p1 = period
  · have dp : (p1 : Int) = (period : Int) := by omega
    have hP := Lib.hid hp
    have hP1 := Lib.hid hp1
    clear hp hp1
    go_quiet (fail)
    have k3 : Kept [TU] w2 ((w2.drewN nq).setCell ⟨TU, 4, none⟩ (.int .i64 (0 : Nat))) := ((Kept.refl [TU] w2).drawn nq).setCell _ (Or.inl (by simp))
    have HT3 : TurnAt ((w2.drewN nq).setCell ⟨TU, 4, none⟩ (.int .i64 (0 : Nat))) TU LN Mb Cb n spares period 0 m :=
      ⟨TurnIn.setPuts (w := w2.drewN nq) HA2.out 0, HL2.out.kept k3 (by have := HNEs.out; simp; omega), HM2.out.kept k3 (by have := HNEs.out; simp; omega) (by have := HNEs.out; simp; omega), HNEs.out.2, by have := HNEs.out; omega, HNEs.out.1⟩
    have HN3 : Hid (obj ((w2.drewN nq).setCell ⟨TU, 4, none⟩ (.int .i64 (0 : Nat))) bl = some (.cells (cs l) 91)) := Lib.hid (k3.keep HN2.out (by have := HNE.out; simp; exact this))
    have HK3 : Hid (Kept [Mb, Cb, TU] w ((w2.drewN nq).setCell ⟨TU, 4, none⟩ (.int .i64 (0 : Nat)))) := Lib.hid ((HK2.out.drawn nq).setCell _ (Or.inl (by simp)))
    have KV := Lib.hid (tmove_cut HT3 HG.out HC.out)
    have HT3 := Lib.hid HT3
    clear k3 HL2 HM2 HA2 HN2 HK2
    go_wp2_with fail
    refine KV.out.mono ?_
    rintro _ w3 ⟨rfl, hm, hk⟩
    have HM3 := Lib.hid hm
    have HKn := Lib.hid (HK3.out.next hk (by intro x hx; left; simp at hx ⊢; omega))
    clear hm hk HT3 HN3 HK3 KV hT2
    go_wp2
    go_ret
    exact ⟨_, rfl, HM3.out, put_cutted HG.out HC.out HMK.out _ _ (HLE.out _ (by have := gapN_le n m.mv; rw [HG.out.hn]; omega)), HKn.out⟩
  · have dp : ¬ (p1 : Int) = (period : Int) := by omega
    have hP : Hid (p1 < period) := Lib.hid (by have := HP1.out; omega)
    have hP1 := Lib.hid hp1
    clear hp hp1
    go_quiet (fail)
    have HTn : Hid (TurnAt (w2.drewN nq) TU LN Mb Cb n spares period p1 m) := Lib.hid ⟨HA2.out, HL2.out, HM2.out.drawn nq, HNEs.out.2, hP.out, HNEs.out.1⟩
    have HNn : Hid (obj (w2.drewN nq) bl = some (.cells (cs l) 91)) := HN2
    have HKn := Lib.hid (HK2.out.drawn nq)
    have HGn := HG
    have HCn := HC
    have HWn : Hid (m.writes = m.writes ∧ m.writes + 1 ≤ 1000000000000) := Lib.hid ⟨rfl, HW.out⟩
    generalize w2.drewN nq = w3 at HTn HNn HKn ⊢
    clear HL2 HM2 HA2 HN2 HK2 hT2
    have hT := HTn.out.hT
    have hT : obj w3 TU = some (.cells #[.pointer (some ⟨Mb, 0, none⟩), .pointer (some ⟨LN, 0, none⟩), .int .i64 n, .int .i64 period, .int .i64 p1] 141 (0, 0)) := hT
    have b1 := lt_of_obj hT
    have q := HNn.out
    have b2 := lt_of_obj q
    have KM : ∀ y, Calls Tryz.prog 94 #[.pointer (some ⟨TU, 0, none⟩)] (more w3 y) fun e w'' => e = .returned (.int .i64 (m).mv) ∧ ∃ z, w'' = more w3 z := fun y =>
      (moves_in (HTn.out.hT.below (more_below w3 y)) (HTn.out.hM.below (more_below w3 y)) HGn.out).mono fun _ _ ⟨e, hw⟩ => ⟨e, y, hw.symm⟩
    have KS : ∀ y, Calls Tryz.prog 93 #[.int .i64 n, .int .i64 (m).mv, .int .i64 x] (more w3 y) fun e w'' => e = .returned (.int .i64 (slotN n (m).mv x)) ∧ ∃ z, w'' = more w3 z := fun y =>
      (slot_any (more w3 y) ⟨HGn.out.n1.1, by have := HGn.out.n1.2; omega⟩ (by have := HGn.out.mv.2; omega) x HX.out).mono fun _ _ ⟨e, hw⟩ => ⟨e, y, hw.symm⟩
    obtain ⟨s, hs⟩ : ∃ s, slotN n (m).mv x = s := ⟨_, rfl⟩
    have hs2 : s < n + 1 := by rw [← hs]; have := slotN_le (n := n) (mv := (m).mv) (x := x) (by have := HX.out; omega); omega
    rw [hs] at KS
    have HS := Lib.hid (And.intro hs hs2)
    have KM := Lib.hid KM
    have KS := Lib.hid KS
    generalize (m).mv = mv at KM KS
    clear hs hs2
    have hlen := HLEN.out
    go_wp2_with fail
    refine wp_region_more_tail 13 (by kernel_rfl) (by kernel_rfl) (by kernel_rfl) ?_
    simp only [List.take_succ_cons, List.take_zero, List.drop_succ_cons, List.drop_zero]
    repeat (go_big_quiet_step ((first | (go_at_call 94; exact KM.out _) | (go_at_call 93; exact KS.out _))))
    refine wpQuiet_nil ?_
    intro _ hw'
    obtain ⟨y, hw''⟩ := hw'
    subst hw''
    have HT6 := Lib.hid (HTn.out.below (more_below w3 y))
    have HK6 := Lib.hid (HKn.out.more y)
    have K6 := lput_in HT6.out.hM HGn.out.up HGn.out.cut HGn.out.wr HT6.out.hL HGn.out.sp HGn.out.fr s HS.out.2 (by have := HGn.out.n1.2; omega) (by rw [HGn.out.hn]; omega) (HGn.out.wwe s) l HLEN.out
    rw [cut_tells HCn.out] at K6
    have K6 := Lib.hid K6
    clear KM KS hT b1 b2 q HTn HKn HNn hlen
    change wpList _ _ _ _ _ (more w3 y)
    generalize more w3 y = w6 at HT6 HK6 K6 ⊢
    go_wp2_with fail
    refine K6.out.mono ?_
    rintro _ w7 ⟨rfl, hm, hk⟩
    have HM7 := Lib.hid hm
    have HK7 := Lib.hid (HK6.out.next hk (by intro x hx; left; simp at hx ⊢; omega))
    clear hm hk HT6 HK6 K6
    go_wp2
    go_ret
    exact ⟨_, rfl, HM7.out, put_cutted HG.out HC.out HMK.out _ _ (HLE.out _ (by have := HS.out.2; rw [HG.out.hn]; omega)), HK7.out⟩
end
end Go.Proofs.YtphmfaddgpjndaaGreat

/- Contracts of package log: what reads. -/
namespace Go.Proofs.YtphmfaddgpjndaaGreat
open Go.ChangeShapes Go.WideShapes Go.RowKit Go.Maps

/-- the cells of a home -/
def homeC (ln : Int) (l : List Int) : Array Value := (Value.int .i64 ln :: l.map (Value.int .u64)).toArray
@[go_sem] theorem homeC_size (ln : Int) (l : List Int) : (homeC ln l).size = l.length + 1 := by simp [homeC]
@[go_sem] theorem homeC_flat (ln : Int) (l : List Int) : flat (homeC ln l) = true := by simp [homeC, flat, Value.oneCell']
@[go_sem] theorem homeC_zero (ln : Int) (l : List Int) : nth (homeC ln l) 0 = some (.int .i64 ln) := by simp [homeC, nth]
theorem homeC_word (ln : Int) (l : List Int) (t : Nat) (h : t < l.length) : nth (homeC ln l) (1 + t) = some (.int .u64 (wd l t)) := by
  rw [Nat.add_comm]
  simp [homeC, nth, wd, h]
@[go_sem] theorem homeC_row (ln : Int) (l : List Int) (t : TypeId) (h : l.length = 8) : rowAt (some (.cells (homeC ln l) t (0, 0))) 1 8 = some (cs l) := by
  have hw : WordsAt (homeC ln l) 1 l := fun i hi => homeC_word ln l i hi
  exact WordsAt.rowAt (w := World.alloc ⟨#[], fun _ _ => 0, 0, default, default⟩ (.cells (homeC ln l) t)) (g := 0) (newA _ _) hw h.symm (by omega)
@[go_sem] theorem homeC_extract (ln : Int) (l : List Int) (h : l.length = 8) : (homeC ln l).extract 1 9 = cs l := by
  have := homeC_row ln l 0 h
  rw [rowAt_some _ _ _ _ _ (by rw [homeC_size]; omega)] at this
  simpa using this
/-- homes as elements -/
def homeF (ln : Nat → Int) (dt : Nat → List Int) : Nat → Nat → Value := fun i t => if t = 0 then .int .i64 (ln i) else .int .u64 (wd (dt i) (t - 1))
theorem homeF_nth (ln : Nat → Int) (dt : Nat → List Int) (i t : Nat) (hl : (dt i).length = 8) (ht : t < 9) : some (homeF ln dt i t) = nth (homeC (ln i) (dt i)) t := by
  unfold homeF
  by_cases h : t = 0
  · subst h; rw [if_pos rfl, homeC_zero]
  · rw [if_neg h]
    obtain ⟨s, rfl⟩ : ∃ s, t = 1 + s := ⟨t - 1, by omega⟩
    rw [homeC_word _ _ _ (by omega)]
    congr 3; omega
theorem SlOf.home {w : World} {B n : Nat} {v : Value} {ln : Nat → Int} {dt : Nat → List Int} (h : SlOf w B v 9 n (homeF ln dt)) (hl : ∀ i, i < n → (dt i).length = 8) (h0 : 0 < n) :
    ∃ g off cap, v = .slice (some ⟨g, off, none⟩) n cap ∧ n ≤ cap ∧ cap ≤ 9223372036854775807 ∧ g < w.heap.size ∧ ∀ i, i < n → (∃ c ty, obj w g = some (.cells c ty (0, 0))) → rowAt (obj w g) (off + i * 9) 9 = some (homeC (ln i) (dt i)) := by
  obtain ⟨g, off, cap, e, h1, h2, _, h3⟩ := h.cells h0
  refine ⟨g, off, cap, e, h1, h2, ?_, fun i hi ho => ?_⟩
  · exact lt_of_cell (h3 0 h0 0 (by decide))
  · refine rowAt_of (by rw [homeC_size, hl i hi]) (by decide) (fun t ht => ?_) ho
    rw [h3 i hi t ht]; exact homeF_nth ln dt i t (hl i hi) ht

section
variable {w w' : World} {LG TU LN Mb Cb n spares period puts : Nat} {m : MS}
/-- a log lies in block LG -/
def LogAt (w : World) (LG Mb TU : Nat) : Prop := obj w LG = some (.cells #[.pointer (some ⟨Mb, 0, none⟩), .pointer (some ⟨TU, 0, none⟩)] 127 (0, 0))
set_option maxHeartbeats 800000 in
theorem gnew_in (h : TurnIn w TU LN Mb n period puts) (hn : 16 < n) : Calls Tryz.prog 97 #[.pointer (some ⟨Mb, 0, none⟩), .pointer (some ⟨TU, 0, none⟩)] w fun e w' => e = .returned (.pointer (some ⟨w.heap.size, 0, none⟩)) ∧ w' = w.alloc (.cells #[.pointer (some ⟨Mb, 0, none⟩), .pointer (some ⟨TU, 0, none⟩)] 127) := by
  have K := Lib.hid (tlines_in h)
  have d1 : ¬ (n : Int) ≤ 16 := by omega
  clear h hn
  go_enter Tryz.func97, Tryz.ntmps97
  go_wp2_with (go_at_call 80; refine K.out.mono ?_; rintro _ _ ⟨rfl, rfl⟩)
  go_ret
  exact ⟨rfl, rfl⟩
set_option maxHeartbeats 800000 in
theorem pending_in (h : LogAt w LG Mb TU) (hm : MemAt w Mb Cb m) (hd : m.down = false) (h0 : m.reg 1 = 0) : Calls Tryz.prog 153 #[.pointer (some ⟨LG, 0, none⟩)] w fun e w' => e = .returned (.bool false) ∧ w = w' := by
  have K : Calls Tryz.prog 53 #[.pointer (some ⟨Mb, 0, none⟩), .int .i64 1] w _ := reg_in hm hd 1 (by decide)
  rw [h0] at K
  have K := Lib.hid K
  have h' : obj w LG = some (.cells #[.pointer (some ⟨Mb, 0, none⟩), .pointer (some ⟨TU, 0, none⟩)] 127 (0, 0)) := h
  clear h hm hd h0
  go_enter Tryz.func153, Tryz.ntmps153
  go_wp2_with (go_at_call 53; refine K.out.mono ?_; rintro _ _ ⟨rfl, rfl⟩)
  go_ret
  exact ⟨rfl, rfl⟩
set_option maxHeartbeats 800000 in
theorem homes_in (h : LogAt w LG Mb TU) (hm : MemAt w Mb Cb m) (hd : m.down = false) (h0 : m.reg 1 = 0) : Calls Tryz.prog 81 #[.pointer (some ⟨LG, 0, none⟩)] w fun e w' => e = .returned (.tuple #[.slice none 0 0, .int .i64 0]) ∧ w = w' := by
  have K : Calls Tryz.prog 53 #[.pointer (some ⟨Mb, 0, none⟩), .int .i64 1] w _ := reg_in hm hd 1 (by decide)
  rw [h0] at K
  have K := Lib.hid K
  have h' : obj w LG = some (.cells #[.pointer (some ⟨Mb, 0, none⟩), .pointer (some ⟨TU, 0, none⟩)] 127 (0, 0)) := h
  clear h hm hd h0
  go_enter Tryz.func81, Tryz.ntmps81
  go_wp2_with (go_at_call 53; refine K.out.mono ?_; rintro _ _ ⟨rfl, rfl⟩)
  go_loopw [30, 6] (fun i s wr => i = .int .i64 0 ∧ s = .slice none 0 0 ∧ w = wr) (fun _ _ _ => 0)
  case atStart => exact ⟨rfl, rfl, rfl⟩
  case round =>
    obtain ⟨rfl, rfl, rfl⟩ := hrel
    go_wp2
    go_ret2
    exact ⟨rfl, rfl⟩
theorem int3 : Tryz.prog.underlying 3 = some (.int .i64) := Tryz.underlying3
theorem keyed3 : Keyed Tryz.prog 3 := int_keyed Tryz.underlying3
theorem zero3 (w : World) : (zeroValue 3).run Tryz.prog w = .ok (.int .i64 0) w := by kernel_rfl
set_option maxHeartbeats 800000 in
/-- no homes may not be written -/
theorem gmay_none (n : Nat) (hn : 16 ≤ n) (w : World) : Calls Tryz.prog 82 #[.int .i64 n, .slice none 0 0] w fun e w' => e = .returned (.bool false) ∧ Below w.heap.size w w' := by
  have hmm := @run_makeMap Tryz.prog
  have d1 : (n : Int) ≥ 16 := by omega
  clear hn
  go_enter Tryz.func82, Tryz.ntmps82
  go_wp2
  go_loopw [11] (fun i wr => i = .int .i64 0 ∧ wr = w.alloc (.map #[] 0)) (fun _ _ => 0)
  case atStart => exact ⟨rfl, rfl⟩
  case round =>
    obtain ⟨rfl, rfl⟩ := hrel
    go_wp2
    go_ret
    exact ⟨rfl, (Below.refl _ _).alloc (Nat.le_refl _) _⟩
end
end Go.Proofs.YtphmfaddgpjndaaGreat

/- log.May of homes that may be written together. -/
namespace Go.Proofs.YtphmfaddgpjndaaGreat
open Go.ChangeShapes Go.WideShapes Go.RowKit Go.Maps

/-- a map of how often each line was met, behind the first k homes -/
def MetAt (w : World) (g k : Nat) (ln : Nat → Int) : Prop :=
  ∃ D : DataW Unit, w.ownsMap Tryz.prog 3 (plainElem (H := Unit) Tryz.prog 3) g k D ∧ IsMap D ∧ ∀ key : Int, (∀ j, j < k → ln j ≠ key) → D.atKey (.int .i64 key) (.lit (.int .i64 0)) = .lit (.int .i64 0)
theorem met_below {w w' : World} {g k : Nat} {ln : Nat → Int} (h : MetAt w g k ln) (hb : Below w.heap.size w w') : MetAt w' g k ln := by
  obtain ⟨D, h1, h2⟩ := h
  refine ⟨D, ?_, h2⟩
  have hlt := h1.lt
  obtain ⟨es, clock, hg, F, hs, hD⟩ := h1
  exact ⟨es, clock, (hb.block g hlt).trans hg, F, hs, hD⟩

theorem met_cell {wr w1 : World} {g : Nat} {c : Array Value} {t : TypeId} (hlt : g < wr.heap.size) (hg : (wr.alloc (.cells c t)).grownBy w1 (some g)) : obj w1 wr.heap.size = some (.cells c t (0, 0)) :=
  (hg.block wr.heap.size (by simp) (by simp; omega)).trans (newA wr _)
theorem met_below2 {wr w1 : World} {g : Nat} {o : Obj} {w : World} (hb : Below g w wr) (hlt : g < wr.heap.size) (hg : (wr.alloc o).grownBy w1 (some g)) : Below g w w1 :=
  (hb.alloc (by omega) o).grown hg (by simp; omega) (fun j hj => by cases hj; exact Nat.le_refl _)
theorem met_step {w1 : World} {g j : Nat} {ln : Nat → Int} {x : Int} {D : DataW Unit} (ho : w1.ownsMap Tryz.prog 3 (plainElem (H := Unit) Tryz.prog 3) g (j + 1) (D.put (.int .i64 x) (.lit (.int .i64 1)))) (hi : IsMap D) (hx : ln j = x)
    (hat : ∀ key : Int, (∀ i, i < j → ln i ≠ key) → D.atKey (.int .i64 key) (.lit (.int .i64 0)) = .lit (.int .i64 0)) : MetAt w1 g (j + 1) ln := by
  refine ⟨_, ho, hi.put _ _, fun key hk => ?_⟩
  have h1 := hk j (by omega)
  rw [hx] at h1
  rw [atKey_put_other (by simp; exact fun e => h1 e.symm)]
  exact hat key fun i hi => hk i (by omega)

set_option maxRecDepth 100000 in
set_option maxHeartbeats 6400000 in
theorem gmay_in {w : World} {B k : Nat} {v : Value} (n : Nat) (ln : Nat → Int) (dt : Nat → List Int) (h : SlOf w B v 9 k (homeF ln dt)) (hC : ∀ g off c, v = .slice (some ⟨g, off, none⟩) k c → ∃ c ty, obj w g = some (.cells c ty (0, 0))) (hl : ∀ i, i < k → (dt i).length = 8) (hk : 1 ≤ k ∧ k ≤ 14) (hn : n ≤ 1000)
    (hr : ∀ i, i < k → 16 ≤ ln i ∧ ln i < n) (hd : ∀ i j, i < j → j < k → ln i ≠ ln j) :
    Calls Tryz.prog 82 #[.int .i64 n, v] w fun e w' => e = .returned (.bool true) ∧ Below w.heap.size w w' := by
  have hmm := @run_makeMap Tryz.prog
  obtain ⟨g, off, cap, rfl, q1, q2, q3, q4⟩ := h.home hl (by omega)
  have hob := hC g off cap rfl
  have HR := Lib.hid (fun i hi => q4 i hi hob)
  have HLN := Lib.hid hr
  have HD := Lib.hid hd
  have HL := Lib.hid hl
  have HK := Lib.hid hk
  have HN := Lib.hid hn
  have HG := Lib.hid q3
  have HO := Lib.hid hob
  have d1 : (n : Int) ≥ 16 := by have := hr 0 (by omega); omega
  have d2 : (k : Int) ≥ 1 := by omega
  have d3 : (k : Int) ≤ 14 := by omega
  clear h hC hl hk hn hr hd q1 q2 q3 q4 hob
  go_enter Tryz.func82, Tryz.ntmps82
  go_wp2
  go_loopw [11] (fun i wr => ∃ j : Nat, j ≤ k ∧ i = .int .i64 j ∧ MetAt wr w.heap.size j ln ∧ Below w.heap.size w wr) (fun i _ => k - (intOf i).toNat)
  case atStart => exact ⟨0, Nat.zero_le _, rfl, ⟨_, World.ownsMap_made _ _ _ _, isMap_empty, fun key _ => rfl⟩, (Below.refl _ _).alloc (Nat.le_refl _) _⟩
  case round =>
    obtain ⟨j, hj, rfl, hm, hb⟩ := hrel
    by_cases hlt : j < k
    · have hltz : (j : Int) < (k : Int) := by omega
      have j0 : (0 : Int) ≤ (j : Int) := Int.natCast_nonneg j
      have wj : IntKind.i64.wrap ((j : Int) + 1) = (j : Int) + 1 := by have := HK.out; rw [IntKind.wrap_i64]; omega
      have hrow := HR.out j hlt
      have hlr := HLN.out j hlt
      have hlen := HL.out j hlt
      have hgr : rowAt (obj wr g) (off + j * 9) 9 = some (homeC (ln j) (dt j)) := by rw [obj_below hb HG.out]; exact hrow
      have hne : ∀ i, i < j → ln i ≠ ln j := fun i hi => HD.out i j hi hlt
      obtain ⟨x, hx⟩ : ∃ x, ln j = x := ⟨_, rfl⟩
      obtain ⟨l, hll⟩ : ∃ l, dt j = l := ⟨_, rfl⟩
      rw [hx] at hgr hne hlr
      rw [hll] at hgr hlen
      have e1 : ¬ x < 16 := by omega
      have e2 : ¬ x ≥ (n : Int) := by omega
      have hwf : (Lit.int .i64 x).wf = true := by
        have e1 : IntKind.min .i64 = -9223372036854775808 := by decide
        have e2 : IntKind.max .i64 = 9223372036854775807 := by decide
        have := HN.out
        simp only [Lit.wf, e1, e2, Bool.and_eq_true, decide_eq_true_eq]
        omega
      have hkey : keyOf Tryz.prog 3 (.int .i64 x) = some (.int .i64 x) := keyOf_int_mk Tryz.underlying3 hwf
      have hlt0 : w.heap.size < wr.heap.size := by obtain ⟨_, h0, _⟩ := hm; exact h0.lt
      obtain ⟨D, ho, hi, hat⟩ := met_below hm ((Below.refl _ _).alloc (Nat.le_refl _) (.cells (homeC x l) 133))
      have hat0 := hat x hne
      have HLT0 := Lib.hid hlt0
      have HB := Lib.hid hb
      have HLT := Lib.hid hlt
      have HX := Lib.hid hx
      have HAT := Lib.hid hat
      have HI := Lib.hid hi
      have HKEY := Lib.hid hkey
      have HOW := Lib.hid ho
      have HLR := Lib.hid hlr
      clear hlt0 hb hm hj hlt hrow hlr hne hx hll hat hi hwf
      obtain ⟨c0, hrun0, hc0, _⟩ := HOW.out.lookup_int keyed3 Tryz.underlying163 Tryz.underlying3 (zero3 _) HKEY.out
      have : c0 = 0 := by rw [hat0] at hc0; simpa using hc0.symm
      subst this
      clear hc0 hat0
      go_wp2_with (at_mapUpdate; refine wpList_mapUpdate_own _ rfl _ _ _ 163 rfl 3 3 keyed3 Tryz.underlying163 _ w.heap.size j _ rfl HOW.out (by have := HLT.out; have := HK.out; unfold maxLen; omega) _ _ _ rfl rfl HKEY.out _ [] (plainElem_int Tryz.underlying3 (by decide)) ?_; intro w1 hown1 hgrow1; obtain ⟨c1, hrun1, hc1, _⟩ := hown1.lookup_int keyed3 Tryz.underlying163 Tryz.underlying3 (zero3 _) HKEY.out; have hob1 := met_cell HLT0.out hgrow1; rw [atKey_put_same HI.out (by trivial)] at hc1; obtain rfl : 1 = c1 := by simpa using hc1)
      exact ⟨⟨j + 1, HLT.out, by simp, met_step hown1 HI.out HX.out HAT.out, met_below2 HB.out HLT0.out hgrow1⟩, by have := HLT.out; simp only [intOf]; omega⟩
    · have : j = k := by omega
      subst this
      have hltz : ¬ (j : Int) < (j : Int) := by omega
      clear hj hlt hm
      go_wp2
      go_ret
      exact ⟨rfl, hb⟩
end Go.Proofs.YtphmfaddgpjndaaGreat
