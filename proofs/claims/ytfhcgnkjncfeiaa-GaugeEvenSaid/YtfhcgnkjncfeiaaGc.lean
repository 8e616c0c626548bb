/- Contracts of package nvm, of a memory whose power is on and stays: New, Lines, Wear, has, told, write. -/
import Derived.Test.YtfhcgnkjncfeiaaGb
import Derived.Test.YtfhcgnkjncfeiaaGa
namespace Go.Proofs.Ytfhcgnkjncfeiaa
open Go.ChangeShapes Go.WideShapes Go.RowKit Fl

def u0 : Value := .int .u64 0
/-- a memory's own cells -/
def memC (Cb n : Nat) (writes : Int) : Array Value :=
  #[.slice (some ⟨Cb, 0, none⟩) n n, u0, u0, u0, u0, u0, u0, u0, u0, u0, u0, u0, u0, u0, u0, u0, u0, u0, u0, u0, u0, u0, u0, u0, u0, u0, u0, u0, u0, u0, u0, u0, u0, u0, u0, u0, .int .i64 writes, .int .i64 (-1), .int .i64 0, .bool false]
/-- the lines, ten cells to each -/
def LinesIn (w : World) (Cb n : Nat) (wear lim : Nat → Int) : Prop :=
  ∃ c : Array Value, obj w Cb = some (.cells c 86 (0, 0)) ∧ c.size = 10 * n ∧ ∀ j, j < n → nth c (10 * j + 8) = some (.int .i64 (wear j)) ∧ nth c (10 * j + 9) = some (.int .i64 (lim j)) ∧ ∀ t, t < 8 → ∃ x, nth c (10 * j + t) = some (.int .u64 x)
/-- a memory lies in the blocks Mb and Cb -/
structure Mem (w : World) (Mb Cb n : Nat) (wear lim : Nat → Int) (writes : Int) : Prop where
  hM : obj w Mb = some (.cells (memC Cb n writes) 84 (0, 0))
  hL : LinesIn w Cb n wear lim
  ne : Mb ≠ Cb

theorem LinesIn.same {w w' : World} {Cb n : Nat} {wear lim : Nat → Int} (h : LinesIn w Cb n wear lim) (e : obj w' Cb = obj w Cb) : LinesIn w' Cb n wear lim := by
  obtain ⟨c, h1, h2⟩ := h
  exact ⟨c, e.trans h1, h2⟩
theorem LinesIn.cells {w : World} {Cb n : Nat} {wear lim : Nat → Int} (h : LinesIn w Cb n wear lim) (j : Nat) (hj : j < n) : cellAt (obj w Cb) (10 * j + 8) = some (.int .i64 (wear j)) ∧ cellAt (obj w Cb) (10 * j + 9) = some (.int .i64 (lim j)) ∧ (∀ i, iceAt (obj w Cb) i = false) ∧ unbarred (obj w Cb) = true := by
  obtain ⟨c, h1, _, h2⟩ := h
  rw [h1]; exact ⟨(h2 j hj).1, (h2 j hj).2.1, fun i => iceAt_some .., rfl⟩
theorem nth_set {c : Array Value} {p : Nat} {a : Value} (h : p < c.size) (i : Nat) : nth (c.setIfInBounds p a) i = if i = p then some a else nth c i := by
  unfold nth
  by_cases e : i = p
  · subst e; rw [if_pos rfl, Array.getElem?_setIfInBounds_self_of_lt h]
  · rw [if_neg e, Array.getElem?_setIfInBounds_ne (Ne.symm e)]
/-- a wear count written -/
theorem LinesIn.setWear {w : World} {Cb n : Nat} {wear lim : Nat → Int} (h : LinesIn w Cb n wear lim) (p : Nat) (hp : p < n) (a : Int) : LinesIn (w.setCell ⟨Cb, 10 * p + 8, none⟩ (.int .i64 a)) Cb n (fun j => if j = p then a else wear j) lim := by
  obtain ⟨c, h1, h2, h3⟩ := h
  refine ⟨c.setIfInBounds (10 * p + 8) (.int .i64 a), by rw [obj_setCell_eq, h1]; rfl, by simpa using h2, fun j hj => ?_⟩
  obtain ⟨k1, k2, k3⟩ := h3 j hj
  rw [nth_set (by omega), nth_set (by omega)]
  refine ⟨?_, by rw [if_neg (by omega)]; exact k2, fun t ht => by rw [nth_set (by omega), if_neg (by omega)]; exact k3 t ht⟩
  by_cases e : j = p
  · subst e; simp
  · dsimp only; rw [if_neg (by omega), if_neg e]; exact k1
/-- a limit written -/
theorem LinesIn.setLim {w : World} {Cb n : Nat} {wear lim : Nat → Int} (h : LinesIn w Cb n wear lim) (p : Nat) (hp : p < n) (a : Int) : LinesIn (w.setCell ⟨Cb, 10 * p + 9, none⟩ (.int .i64 a)) Cb n wear (fun j => if j = p then a else lim j) := by
  obtain ⟨c, h1, h2, h3⟩ := h
  refine ⟨c.setIfInBounds (10 * p + 9) (.int .i64 a), by rw [obj_setCell_eq, h1]; rfl, by simpa using h2, fun j hj => ?_⟩
  obtain ⟨k1, k2, k3⟩ := h3 j hj
  rw [nth_set (by omega), nth_set (by omega)]
  refine ⟨by rw [if_neg (by omega)]; exact k1, ?_, fun t ht => by rw [nth_set (by omega), if_neg (by omega)]; exact k3 t ht⟩
  by_cases e : j = p
  · subst e; simp
  · dsimp only; rw [if_neg (by omega), if_neg e]; exact k2
theorem Mem.below {w w' : World} {Mb Cb n : Nat} {wear lim : Nat → Int} {writes : Int} (h : Mem w Mb Cb n wear lim writes) (hb : Below w.heap.size w w') : Mem w' Mb Cb n wear lim writes := by
  obtain ⟨c, h1, h2⟩ := h.hL
  exact ⟨keep hb h.hM, ⟨c, keep hb h1, h2⟩, h.ne⟩
theorem Mem.alloc {w : World} {Mb Cb n : Nat} {wear lim : Nat → Int} {writes : Int} (h : Mem w Mb Cb n wear lim writes) (o : Obj) : Mem (w.alloc o) Mb Cb n wear lim writes := by
  obtain ⟨c, h1, h2⟩ := h.hL
  exact ⟨keepA o h.hM, ⟨c, keepA o h1, h2⟩, h.ne⟩

/-! ### reading -/
set_option maxHeartbeats 400000 in
theorem lines_none (w : World) : Calls Try.prog 57 #[.pointer none] w fun e w' => e = .returned (.int .i64 0) ∧ w = w' := by
  go_enter Try.func57, Try.ntmps57
  go_wp2
  go_ret
  exact ⟨rfl, rfl⟩
section
variable {w : World} {Mb Cb n : Nat} {wear lim : Nat → Int} {writes : Int}
theorem Mem.c0 (h : Mem w Mb Cb n wear lim writes) : cellAt (obj w Mb) 0 = some (.slice (some ⟨Cb, 0, none⟩) n n) := by rw [h.hM]; rfl
theorem Mem.c36 (h : Mem w Mb Cb n wear lim writes) : cellAt (obj w Mb) 36 = some (.int .i64 writes) := by rw [h.hM]; rfl
theorem Mem.c37 (h : Mem w Mb Cb n wear lim writes) : cellAt (obj w Mb) 37 = some (.int .i64 (-1)) := by rw [h.hM]; rfl
theorem Mem.c39 (h : Mem w Mb Cb n wear lim writes) : cellAt (obj w Mb) 39 = some (.bool false) := by rw [h.hM]; rfl
theorem Mem.ice (h : Mem w Mb Cb n wear lim writes) (i : Nat) : iceAt (obj w Mb) i = false := by rw [h.hM]; exact iceAt_some ..
set_option maxHeartbeats 400000 in
theorem lines_in (h : Mem w Mb Cb n wear lim writes) : Calls Try.prog 57 #[.pointer (some ⟨Mb, 0, none⟩)] w fun e w' => e = .returned (.int .i64 n) ∧ w = w' := by
  have c0 := h.c0
  clear h
  go_enter Try.func57, Try.ntmps57
  go_wp2
  go_ret
  exact ⟨rfl, rfl⟩
set_option maxHeartbeats 400000 in
theorem mhas_none (i : Int) (w : World) : Calls Try.prog 81 #[.pointer none, .int .i64 i] w fun e w' => e = .returned (.bool false) ∧ w = w' := by
  by_cases h1 : 0 ≤ i
  · have d1 : decide (i ≥ 0) = true := decide_eq_true h1
    have d2 : decide (i < 0) = false := decide_eq_false (by omega)
    clear h1
    go_enter Try.func81, Try.ntmps81
    go_wp2_with (go_at_call 57; refine (lines_none _).mono ?_; rintro _ _ ⟨rfl, rfl⟩)
    go_ret
    exact ⟨rfl, rfl⟩
  · have d1 : decide (i ≥ 0) = false := decide_eq_false h1
    clear h1
    go_enter Try.func81, Try.ntmps81
    go_wp2_with (go_at_call 57; refine (lines_none _).mono ?_; rintro _ _ ⟨rfl, rfl⟩)
    go_ret
    exact ⟨rfl, rfl⟩
set_option maxHeartbeats 400000 in
theorem mhas_in (h : Mem w Mb Cb n wear lim writes) (i : Int) : Calls Try.prog 81 #[.pointer (some ⟨Mb, 0, none⟩), .int .i64 i] w fun e w' => e = .returned (.bool (decide (0 ≤ i ∧ i < n))) ∧ w = w' := by
  have K := Lib.hid (lines_in h)
  clear h
  by_cases h1 : 0 ≤ i
  · have d1 : decide (i ≥ 0) = true := decide_eq_true h1
    have e : decide (0 ≤ i ∧ i < (n : Int)) = decide (i < (n : Int)) := by rw [decide_eq_decide]; exact ⟨fun h => h.2, fun h => ⟨h1, h⟩⟩
    rw [e]
    clear h1 e
    go_enter Try.func81, Try.ntmps81
    go_wp2_with (go_at_call 57; refine K.out.mono ?_; rintro _ _ ⟨rfl, rfl⟩)
    go_ret
    exact ⟨rfl, rfl⟩
  · have d1 : decide (i ≥ 0) = false := decide_eq_false h1
    have e : decide (0 ≤ i ∧ i < (n : Int)) = false := decide_eq_false (fun h => h1 h.1)
    rw [e]
    clear h1 e
    go_enter Try.func81, Try.ntmps81
    go_wp2_with (go_at_call 57; refine K.out.mono ?_; rintro _ _ ⟨rfl, rfl⟩)
    go_ret
    exact ⟨rfl, rfl⟩
set_option maxHeartbeats 400000 in
theorem wear_in (h : Mem w Mb Cb n wear lim writes) (j : Nat) (hj : j < n) : Calls Try.prog 58 #[.pointer (some ⟨Mb, 0, none⟩), .int .i64 j] w fun e w' => e = .returned (.int .i64 (wear j)) ∧ w = w' := by
  have K := mhas_in h (j : Int)
  rw [decide_eq_true (by omega)] at K
  have K := Lib.hid K
  have c0 := h.c0
  obtain ⟨c8, _, _, _⟩ := h.hL.cells j hj
  have j0 : (0 : Int) ≤ (j : Int) := by omega
  have j1 : (j : Int) < (n : Int) := by omega
  rw [Nat.mul_comm 10 j] at c8
  clear h
  go_enter Try.func58, Try.ntmps58
  go_wp2_with (go_at_call 81; refine K.out.mono ?_; rintro _ _ ⟨rfl, rfl⟩)
  go_ret
  exact ⟨rfl, rfl⟩

/-! ### writing -/
set_option maxHeartbeats 400000 in
theorem told_in (h : Mem w Mb Cb n wear lim writes) : Calls Try.prog 84 #[.pointer (some ⟨Mb, 0, none⟩), .bool false] w fun e w' => e = .returned (.int .i64 0) ∧ w = w' := by
  have c := h.c39
  clear h
  go_enter Try.func84, Try.ntmps84
  go_wp2
  go_ret
  exact ⟨rfl, rfl⟩
set_option maxHeartbeats 800000 in
theorem write_in (h : Mem w Mb Cb n wear lim writes) (hw : IntKind.i64.wrap (writes + 1) = writes + 1) : Calls Try.prog 82 #[.pointer (some ⟨Mb, 0, none⟩)] w fun e w' => e = .returned (.int .i64 (-1)) ∧ w' = w.setCell ⟨Mb, 36, none⟩ (.int .i64 (writes + 1)) := by
  obtain ⟨a, ha⟩ : ∃ a, writes + 1 = a := ⟨_, rfl⟩
  rw [ha] at hw ⊢
  have c1 := h.c36
  have c2 : cellAt ((obj w Mb).map (setAt 36 (.int .i64 a))) 37 = some (.int .i64 (-1)) := by rw [h.hM]; rfl
  have i1 := h.ice 36
  have hw2 : IntKind.i64.wrap (writes + 1) = a := by rw [ha]; exact hw
  clear h ha hw
  go_enter Try.func82, Try.ntmps82
  go_wp2
  go_ret
  exact ⟨rfl, rfl⟩
theorem Mem.count (h : Mem w Mb Cb n wear lim writes) (a : Int) : Mem (w.setCell ⟨Mb, 36, none⟩ (.int .i64 a)) Mb Cb n wear lim a :=
  ⟨by rw [obj_setCell_eq, h.hM]; rfl, h.hL.same (obj_setCell_ne w _ _ Cb (Ne.symm h.ne)), h.ne⟩
end
end Go.Proofs.Ytfhcgnkjncfeiaa
