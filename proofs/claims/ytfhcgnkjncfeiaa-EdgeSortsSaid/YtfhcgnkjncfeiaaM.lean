/- A small calculus of blocks for the walks: what a block holds, as an equation on the heap, behind new blocks, draws and stores; whole rows of cells read and written; rows of words. -/
import Derived.Test.YtfhcgnkjncfeiaaChecked
import Derived.WalkKit
import Derived.WalkLawsBesides
import Derived.WalkSpells
import Derived.Lib.Hide
import Derived.Deep.QuietTactic
import Derived.BigQuiet
namespace Go.Proofs.Ytfhcgnkjncfeiaa
open Go.ChangeShapes Go.WideShapes Go.RowKit

/-- an array's place (behind a name: simp's own words on arrays stay away) -/
def nth (c : Array Value) (i : Nat) : Option Value := c[i]?
@[go_sem] theorem nth_lit (l : List Value) (i : Nat) : nth l.toArray i = l[i]? := by simp [nth]
/-- a block's cell -/
def cellAt (o : Option Obj) (i : Nat) : Option Value := match o with | some (.cells c _ _) => nth c i | _ => none
/-- may a block's cell not be written? -/
def iceAt (o : Option Obj) (i : Nat) : Bool := match o with | some (.cells _ _ (lo, hi)) => decide (lo ≤ i) && decide (i < hi) | _ => false
/-- a row of a block's cells -/
def rowAt (o : Option Obj) (off n : Nat) : Option (Array Value) := match o with | some (.cells c _ _) => if off + n ≤ c.size then some (c.extract off (off + n)) else none | _ => none
/-- a block with one cell written -/
def setAt (i : Nat) (v : Value) : Obj → Obj
  | .cells c t f => .cells (c.setIfInBounds i v) t f
  | o => o
/-- a block with its cells replaced -/
def withCells (cs : Array Value) : Obj → Obj
  | .cells _ t f => .cells cs t f
  | o => o
/-- a row of cells with a part replaced -/
def splice (c : Array Value) (off : Nat) (vs : Array Value) : Array Value := (c.toList.take off ++ vs.toList ++ c.toList.drop (off + vs.size)).toArray
theorem splice_whole (c vs : Array Value) (h : c.size = vs.size) : splice c 0 vs = vs := by
  unfold splice; rw [List.drop_eq_nil_of_le (by simp; omega)]; simp
attribute [go_sem] splice_whole
/-- are all cells' values of one cell? -/
def flat (c : Array Value) : Bool := c.toList.all Value.oneCell'
@[go_sem] theorem flat_lit (l : List Value) : flat l.toArray = l.all Value.oneCell' := rfl
/-- a block's cells -/
def cellsIn (o : Option Obj) : Array Value := match o with | some (.cells c _ _) => c | _ => #[]
/-- a type's size -/
def szOf (P : Program) (w : World) (t : TypeId) : Nat := match (sizeOf t).run P w with | .ok n _ => n | _ => 0
attribute [go_sem] szOf

@[go_sem] theorem cellAt_some (c : Array Value) (t : TypeId) (f : Nat × Nat) (i : Nat) : cellAt (some (.cells c t f)) i = nth c i := rfl
@[go_sem] theorem iceAt_some (c : Array Value) (t : TypeId) (i : Nat) : iceAt (some (.cells c t (0, 0))) i = false := by simp [iceAt]
@[go_sem] theorem rowAt_some (c : Array Value) (t : TypeId) (f : Nat × Nat) (off n : Nat) (h : off + n ≤ c.size) : rowAt (some (.cells c t f)) off n = some (c.extract off (off + n)) := by simp [rowAt, h]
@[go_sem] theorem setAt_cells (i : Nat) (v : Value) (c : Array Value) (t : TypeId) (f : Nat × Nat) : setAt i v (.cells c t f) = .cells (c.setIfInBounds i v) t f := rfl
@[go_sem] theorem withCells_cells (cs c : Array Value) (t : TypeId) (f : Nat × Nat) : withCells cs (.cells c t f) = .cells cs t f := rfl
@[go_sem] theorem cellsIn_some (c : Array Value) (t : TypeId) (f : Nat × Nat) : cellsIn (some (.cells c t f)) = c := rfl

section
variable (w : World)
/-- the block of a number (behind a name: simp's own words on lists stay away) -/
def obj (w : World) (g : Nat) : Option Obj := w.heap[g]?
@[go_sem] theorem cell?_heap (g i : Nat) : w.cell? ⟨g, i, none⟩ = cellAt (obj w g) i := by
  unfold World.cell? cellAt obj nth
  simp only
  cases w.heap[g]? with
  | none => rfl
  | some o => cases o <;> simp
@[go_sem] theorem frozen?_heap (g i : Nat) : w.frozen? ⟨g, i, none⟩ = iceAt (obj w g) i := by
  unfold World.frozen? iceAt obj
  simp only
  cases w.heap[g]? with
  | none => rfl
  | some o => cases o <;> simp
@[go_sem] theorem obj_alloc_at (o : Obj) (n : Nat) (h : n = w.heap.size) : obj (w.alloc o) n = some o := by
  subst h; exact heap_alloc_new w o
@[go_sem] theorem obj_alloc_past (o : Obj) (n : Nat) (h : n < w.heap.size) : obj (w.alloc o) n = obj w n := by
  show (w.heap.push o)[n]? = w.heap[n]?
  rw [Array.getElem?_push, if_neg (Nat.ne_of_lt h)]
@[go_sem] theorem obj_drew (n : Nat) : obj w.drew n = obj w n := rfl
@[go_sem] theorem obj_drewN (k n : Nat) : obj (w.drewN k) n = obj w n := rfl
@[go_sem] theorem obj_setCell_ne (a : Addr) (v : Value) (n : Nat) (h : n ≠ a.block) : obj (w.setCell a v) n = obj w n := heap_setCell_other w a n v h
@[go_sem] theorem obj_setCell_eq (g i : Nat) (v : Value) : obj (w.setCell ⟨g, i, none⟩ v) g = (obj w g).map (setAt i v) := by
  unfold obj
  simp only [World.setCell, Array.getElem?_modify, if_true]
  cases w.heap[g]? with
  | none => rfl
  | some o => cases o <;> simp [setAt]
@[go_sem] theorem obj_setRow_ne (g : Nat) (cs : Array Value) (n : Nat) (h : n ≠ g) : obj (w.setRow g cs) n = obj w n := setRow_other w g n cs h
@[go_sem] theorem obj_setRow_eq (g : Nat) (cs : Array Value) : obj (w.setRow g cs) g = (obj w g).map (withCells cs) := by
  unfold obj
  simp only [World.setRow, Array.getElem?_modify, if_true]
  cases w.heap[g]? with
  | none => rfl
  | some o => cases o <;> simp [withCells]
@[go_sem] theorem setRow_alloc_at (c cs : Array Value) (t : TypeId) (n : Nat) (h : n = w.heap.size) : (w.alloc (.cells c t)).setRow n cs = w.alloc (.cells cs t) := by
  subst h
  unfold World.setRow World.alloc
  congr 1
  apply Array.ext_getElem?
  intro k
  simp only [Array.getElem?_modify, Array.getElem?_push]
  by_cases hk : w.heap.size = k
  · subst hk; simp
  · rw [if_neg hk, if_neg (fun e => hk e.symm), if_neg (fun e => hk e.symm)]
@[go_sem] theorem setRow_alloc_past (o : Obj) (cs : Array Value) (n : Nat) (h : n < w.heap.size) : (w.alloc o).setRow n cs = (w.setRow n cs).alloc o := by
  unfold World.setRow World.alloc
  congr 1
  apply Array.ext_getElem?
  intro k
  simp only [Array.getElem?_modify, Array.getElem?_push, Array.size_modify]
  by_cases hk : k = w.heap.size
  · subst hk
    simp [Nat.ne_of_lt h]
  · simp [hk]
@[go_sem] theorem setRow_drew (g : Nat) (cs : Array Value) : w.drew.setRow g cs = (w.setRow g cs).drew := rfl
@[go_sem] theorem sizeH_setRow (g : Nat) (cs : Array Value) : (w.setRow g cs).heap.size = w.heap.size := size_setRow w g cs
end

section
variable {P : Program} (w : World)

theorem cellAt_of_row {o : Option Obj} {off n : Nat} (h : (rowAt o off n).isSome = true) (j : Nat) (hj : j < n) : cellAt o (off + j) = some (((rowAt o off n).getD #[]).getD j undef) := by
  cases o with
  | none => simp [rowAt] at h
  | some o =>
    cases o with
    | cells c t f =>
      simp only [rowAt] at h ⊢
      by_cases hc : off + n ≤ c.size
      · simp only [if_pos hc, Option.getD_some, cellAt]
        have h1 : off + j < c.size := by omega
        show c[off + j]? = _
        rw [Array.getElem?_eq_getElem h1]
        simp [Array.getD, Array.getElem_extract]
        omega
      · simp [hc] at h
    | _ => simp [rowAt] at h

theorem addr_add (g off j : Nat) : (⟨g, off, none⟩ : Addr).add j = ⟨g, off + j, none⟩ := by
  unfold Addr.add; split <;> simp_all

/-- A WHOLE ROW READ. -/
theorem run_loadVar_agg (t : TypeId) (g off : Nat) (ha : (isAgg t).run P w = .ok true w) (hs : (sizeOf t).run P w = .ok (szOf P w t) w) (hr : (rowAt (obj w g) off (szOf P w t)).isSome = true) :
    (loadVar t ⟨g, off, none⟩).run P w = .ok (.agg ((rowAt (obj w g) off (szOf P w t)).getD #[])) w := by
  have hsz : ((rowAt (obj w g) off (szOf P w t)).getD #[]).size = szOf P w t := by
    revert hr
    cases obj w g with
    | none => simp [rowAt]
    | some o =>
      cases o with
      | cells c ty f =>
        simp only [rowAt]
        by_cases hc : off + szOf P w t ≤ c.size
        · simp only [if_pos hc]; intro _; simp; omega
        · simp [hc]
      | _ => simp [rowAt]
  have hl := run_loadCells (P := P) w ⟨g, off, none⟩ (szOf P w t) (fun j => ((rowAt (obj w g) off (szOf P w t)).getD #[]).getD j undef)
    (fun j hj => by rw [addr_add, cell?_heap]; exact cellAt_of_row hr j hj)
  simp only [loadVar, Sem.run_bind, ha, Result.andThen_ok, if_true, hs, hl, Sem.run_pure]
  congr 2
  apply Array.ext
  · simp [hsz]
  · intro i h1 h2
    simp [Array.getD, h2]

theorem setRow_same (w : World) (g : Nat) (c : Array Value) (t : TypeId) (hw : obj w g = some (.cells c t (0, 0))) : w.setRow g c = w := by
  unfold World.setRow
  cases w with
  | mk heap tape drawn os output =>
    congr 1
    apply Array.ext_getElem?
    intro k
    simp only [Array.getElem?_modify]
    by_cases hk : g = k
    · subst hk
      simp only [if_true]
      have hw' : heap[g]? = some (.cells c t (0, 0)) := hw
      rw [hw']; rfl
    · rw [if_neg hk]
theorem setRow_setRow (w : World) (g : Nat) (c d : Array Value) : (w.setRow g c).setRow g d = w.setRow g d := by
  unfold World.setRow
  congr 1
  apply Array.ext_getElem?
  intro k
  simp only [Array.getElem?_modify]
  by_cases hk : g = k
  · subst hk
    simp only [if_true]
    cases w.heap[g]? with
    | none => rfl
    | some o => cases o <;> rfl
  · simp [hk]

/-- A ROW OF ONE-CELL VALUES IS STORED CELL BY CELL. -/
theorem run_storeCells_row (g : Nat) (t : TypeId) (vs : List Value) (hv : ∀ v ∈ vs, v.oneCell' = true) : ∀ (w : World) (c : List Value) (off i : Nat), obj w g = some (.cells c.toArray t (0, 0)) → off + i + vs.length ≤ c.length →
    (storeCells ⟨g, off, none⟩ vs i).run P w = .ok () (w.setRow g (c.take (off + i) ++ vs ++ c.drop (off + i + vs.length)).toArray) := by
  induction vs with
  | nil =>
    intro w c off i hw hle
    simp only [storeCells, Sem.run_pure, List.append_nil, List.length_nil, Nat.add_zero, List.take_append_drop]
    rw [setRow_same w g _ t hw]
  | cons v vs ih =>
    intro w c off i hw hle
    simp only [List.length_cons] at hle
    have hc : w.cell? ⟨g, off + i, none⟩ = some c[off + i] := by
      rw [cell?_heap, hw, cellAt_some, nth, List.getElem?_toArray, List.getElem?_eq_getElem]
    have hf : w.frozen? ⟨g, off + i, none⟩ = false := by rw [frozen?_heap, hw, iceAt_some]
    have hst : (store ⟨g, off + i, none⟩ v).run P w = .ok () (w.setCell ⟨g, off + i, none⟩ v) := by
      rw [run_store P w _ v _ (hv v (by simp)), hc]; simp [hf]
    have hsc : w.setCell ⟨g, off + i, none⟩ v = w.setRow g (c.set (off + i) v).toArray := by
      rw [setCell_eq_setRow w g (off + i) c.toArray t (0, 0) v hw, List.setIfInBounds_toArray]
    simp only [storeCells, Sem.run_bind, addr_add, hst, Result.andThen_ok]
    rw [hsc]
    have hw2 : obj (w.setRow g (c.set (off + i) v).toArray) g = some (.cells (c.set (off + i) v).toArray t (0, 0)) := by
      rw [obj_setRow_eq, hw]; rfl
    rw [ih (fun u hu => hv u (by simp [hu])) _ _ off (i + 1) hw2 (by simp; omega), setRow_setRow]
    have e : (c.set (off + i) v).take (off + (i + 1)) ++ vs ++ (c.set (off + i) v).drop (off + (i + 1) + vs.length) = c.take (off + i) ++ (v :: vs) ++ c.drop (off + i + (v :: vs).length) := by
      have h1 : (c.set (off + i) v).take (off + (i + 1)) = c.take (off + i) ++ [v] := by
        rw [← Nat.add_assoc, List.take_succ_eq_append_getElem (by simp; omega), List.getElem_set_self, List.take_set_of_le (Nat.le_refl _)]
      have h2 : (c.set (off + i) v).drop (off + (i + 1) + vs.length) = c.drop (off + i + (v :: vs).length) := by
        rw [List.drop_set_of_lt (by omega)]; congr 1; simp; omega
      rw [h1, h2]; simp
    rw [e]

/-- a block none of whose cells is barred -/
def unbarred (o : Option Obj) : Bool := match o with | some (.cells _ _ f) => f.1 == 0 && f.2 == 0 | _ => false
@[go_sem] theorem unbarred_some (c : Array Value) (t : TypeId) : unbarred (some (.cells c t (0, 0))) = true := rfl
/-- A WHOLE ROW WRITTEN. -/
theorem run_storeVar_agg (t : TypeId) (g off : Nat) (vs : Array Value) (hs : (sizeOf t).run P w = .ok (szOf P w t) w) (hn : vs.size = szOf P w t) (hv : flat vs = true)
    (hr : (rowAt (obj w g) off (szOf P w t)).isSome = true) (hi : unbarred (obj w g) = true) :
    (storeVar t ⟨g, off, none⟩ (.agg vs)).run P w = .ok () (w.setRow g (splice (cellsIn (obj w g)) off vs)) := by
  simp only [storeVar, Sem.run_bind, hs, Result.andThen_ok, Value.cells, hn]
  cases hg : obj w g with
  | none => simp [hg, rowAt] at hr
  | some o =>
    cases o with
    | cells c ty f =>
      obtain ⟨f1, f2⟩ := f
      rw [hg] at hi
      simp [unbarred] at hi
      obtain ⟨rfl, rfl⟩ := hi
      have hle : off + vs.size ≤ c.size := by
        rw [hg] at hr; simp only [rowAt] at hr
        by_cases h : off + szOf P w t ≤ c.size
        · omega
        · simp [h] at hr
      have := run_storeCells_row (P := P) g ty vs.toList (List.all_eq_true.1 hv) w c.toList off 0 (by simpa using hg) (by simpa using hle)
      simp only [Nat.add_zero] at this
      simp [this, cellsIn, splice]
    | _ => simp [hg, rowAt] at hr

/-- AN ELEMENT OF AN ARRAY BY VALUE. -/
theorem run_index_arr (t : TypeId) (cs : Array Value) (k : IntKind) (i : Int) (ht : P.underlying t = some (.array (P.arrayLen t) (P.elem t))) (h0 : 0 ≤ i) (h1 : i < P.arrayLen t)
    (ha : (isAgg (P.elem t)).run P w = .ok false w) (hs : (sizeOf (P.elem t)).run P w = .ok 1 w) (hc : (nth cs i.toNat).isSome = true) :
    (Instr.index t (.agg cs) (.int k i)).run P w = .ok ((nth cs i.toNat).getD undef) w := by
  obtain ⟨v, hv⟩ := Option.isSome_iff_exists.1 hc
  have hv' : cs[i.toNat]? = some v := hv
  simp [Instr.index, run_underlying ht, asIntOf, h0, h1, hs, part, ha, hv, hv']
end

/-! ### the same at the level of an operation, ahead of all unfolding -/

/-- a pointer to a cell -/
def plainPtr : Value → Bool
  | .pointer (some ⟨_, _, none⟩) => true
  | _ => false
def pB : Value → Nat
  | .pointer (some a) => a.block
  | _ => 0
def pO : Value → Nat
  | .pointer (some a) => a.off
  | _ => 0
/-- an aggregate's cells -/
def aggOf : Value → Array Value
  | .agg c => c
  | _ => #[]
def isAggV : Value → Bool
  | .agg _ => true
  | _ => false
def numOf : Value → Int
  | .int _ n => n
  | _ => 0
def isNum : Value → Bool
  | .int _ _ => true
  | _ => false
section
variable (g o : Nat) (c : Array Value) (k : IntKind) (n : Int)
@[go_sem] theorem plainPtr_lit : plainPtr (.pointer (some ⟨g, o, none⟩)) = true := rfl
@[go_sem] theorem pB_lit (a : Addr) : pB (.pointer (some a)) = a.block := rfl
@[go_sem] theorem pO_lit (a : Addr) : pO (.pointer (some a)) = a.off := rfl
@[go_sem] theorem aggOf_lit : aggOf (.agg c) = c := rfl
@[go_sem] theorem isAggV_lit : isAggV (.agg c) = true := rfl
@[go_sem] theorem numOf_lit : numOf (.int k n) = n := rfl
@[go_sem] theorem isNum_lit : isNum (.int k n) = true := rfl
theorem plainPtr_ex {v : Value} (h : plainPtr v = true) : ∃ g o, v = .pointer (some ⟨g, o, none⟩) := by
  unfold plainPtr at h
  split at h
  · exact ⟨_, _, rfl⟩
  · cases h
theorem isAggV_ex {v : Value} (h : isAggV v = true) : ∃ c, v = .agg c := by
  unfold isAggV at h
  split at h
  · rename_i c; exact ⟨c, rfl⟩
  · cases h
theorem isNum_ex {v : Value} (h : isNum v = true) : ∃ k n, v = .int k n := by
  unfold isNum at h
  split at h
  · exact ⟨_, _, rfl⟩
  · cases h
end

/-- a row of cells, or something other -/
def viaRow (o : Option (Array Value)) (k : Array Value → Prop) (z : Prop) : Prop := match o with | some c => k c | none => z
@[go_sem] theorem viaRow_some (c : Array Value) (k : Array Value → Prop) (z : Prop) : viaRow (some c) k z = k c := rfl
/-- a value, or something other -/
def viaVal (o : Option Value) (k : Value → Prop) (z : Prop) : Prop := match o with | some c => k c | none => z
@[go_sem] theorem viaVal_some (c : Value) (k : Value → Prop) (z : Prop) : viaVal (some c) k z = k c := rfl
/-- an operation as it stands -/
def rawOp (P : Program) (o : Oper) (a : Act) (w : World) (K : Act → World → Prop) (Q : Exit → Act → World → Prop) : Prop := Oper.wp P o a w K Q
/-- a block's cells with a part replaced -/
def spliceAt (o : Option Obj) (off : Nat) (vs : Array Value) : Option (Array Value) := match o with
  | some (.cells c _ f) => if f.1 = 0 ∧ f.2 = 0 ∧ off + vs.size ≤ c.size then some (splice c off vs) else none
  | _ => none
@[go_sem] theorem spliceAt_some (c : Array Value) (t : TypeId) (off : Nat) (vs : Array Value) (h : off + vs.size ≤ c.size) : spliceAt (some (.cells c t (0, 0))) off vs = some (splice c off vs) := by
  simp [spliceAt, h]

section
variable {P : Program} (w : World) (d : Option Tmp) (ty : TypeId) (pos : String) (after : Array Edge) (gd : Option (Nat × Bool)) (a : Act) (K : Act → World → Prop) (Q : Exit → Act → World → Prop)

@[go_sem ↓] theorem wp_load_agg (t : TypeId) (x : Operand) (hx : plainPtr (a.eval x) = true) (ha : (isAgg t).run P w = .ok true w) (hs : (sizeOf t).run P w = .ok (szOf P w t) w) :
    Oper.wp P ⟨d, .load t x, ty, pos, after, gd⟩ a w K Q =
      viaRow (rowAt (obj w (pB (a.eval x))) (pO (a.eval x)) (szOf P w t)) (fun c => K (a.put d (.agg c)) w) (rawOp P ⟨d, .load t x, ty, pos, after, gd⟩ a w K Q) := by
  cases hr : rowAt (obj w (pB (a.eval x))) (pO (a.eval x)) (szOf P w t) with
  | none => rfl
  | some c =>
    obtain ⟨g, o, e⟩ := plainPtr_ex hx
    unfold Oper.wp execOp
    rw [e] at hr
    simp only [pB_lit, pO_lit] at hr ⊢
    simp only [e, Instr.loadAt, Instr.sureAddr, Sem.run_bind, Sem.run_pure, Result.andThen_ok]
    rw [run_loadVar_agg w t _ _ ha hs (by rw [hr]; rfl), hr]
    rfl
@[go_sem ↓] theorem wp_store_agg (t : TypeId) (x y : Operand) (hx : plainPtr (a.eval x) = true) (hy : isAggV (a.eval y) = true) (hs : (sizeOf t).run P w = .ok (szOf P w t) w)
    (hn : (aggOf (a.eval y)).size = szOf P w t) (hv : flat (aggOf (a.eval y)) = true) :
    Oper.wp P ⟨d, .store t x y, ty, pos, after, gd⟩ a w K Q =
      viaRow (spliceAt (obj w (pB (a.eval x))) (pO (a.eval x)) (aggOf (a.eval y))) (fun c => K (a.put d undef) (w.setRow (pB (a.eval x)) c)) (rawOp P ⟨d, .store t x y, ty, pos, after, gd⟩ a w K Q) := by
  cases hr : spliceAt (obj w (pB (a.eval x))) (pO (a.eval x)) (aggOf (a.eval y)) with
  | none => rfl
  | some c =>
    obtain ⟨g, o, e⟩ := plainPtr_ex hx
    obtain ⟨l, e2⟩ := isAggV_ex hy
    unfold Oper.wp execOp
    rw [e] at hr ⊢
    rw [e2] at hn hv hr
    simp only [pB_lit, pO_lit, aggOf_lit] at hr hn hv ⊢
    unfold spliceAt at hr
    split at hr
    · rename_i c0 t0 f0 ho
      split at hr
      · rename_i hc
        obtain ⟨hf1, hf2, hle⟩ := hc
        obtain ⟨f1, f2⟩ := f0
        simp only at hf1 hf2
        subst hf1 hf2
        have := run_storeVar_agg (P := P) w t g o l hs hn hv (by rw [ho]; simp only [rowAt]; rw [if_pos (by omega)]; rfl) (by rw [ho]; rfl)
        rw [ho] at this
        simp only [cellsIn_some] at this
        simp only [Option.some.injEq] at hr
        rw [hr] at this
        simp only [e, e2, Instr.storeAt, Instr.sureAddr, Sem.run_bind, Sem.run_pure, Result.andThen_ok]
        rw [this]
        rfl
      · cases hr
    · cases hr
@[go_sem ↓] theorem wp_index_arr (t : TypeId) (x y : Operand) (hx : isAggV (a.eval x) = true) (hy : isNum (a.eval y) = true) (ht : P.underlying t = some (.array (P.arrayLen t) (P.elem t)))
    (h0 : 0 ≤ numOf (a.eval y)) (h1 : numOf (a.eval y) < P.arrayLen t) (ha : (isAgg (P.elem t)).run P w = .ok false w) (hs : (sizeOf (P.elem t)).run P w = .ok 1 w) :
    Oper.wp P ⟨d, .index t x y, ty, pos, after, gd⟩ a w K Q = viaVal (nth (aggOf (a.eval x)) (numOf (a.eval y)).toNat) (fun v => K (a.put d v) w) (rawOp P ⟨d, .index t x y, ty, pos, after, gd⟩ a w K Q) := by
  cases hc : nth (aggOf (a.eval x)) (numOf (a.eval y)).toNat with
  | none => rfl
  | some v =>
    obtain ⟨l, e⟩ := isAggV_ex hx
    obtain ⟨k, n, e2⟩ := isNum_ex hy
    unfold Oper.wp execOp
    rw [e] at hc
    rw [e2] at hc h0 h1
    simp only [aggOf_lit, numOf_lit] at hc h0 h1
    have := run_index_arr (P := P) w t l k n ht h0 h1 ha hs (by rw [hc]; rfl)
    simp only [e, e2, Sem.run_bind, this, Result.andThen_ok, Sem.run_pure, hc]
    rfl
end

/-- an operation of a quiet walk as it stands -/
def rawQ (P : Program) (o : Oper) (a : Act) (C : World → Prop) (w : World) (v : Value) : Prop := Oper.quietAt P o a C w v
section
variable {P : Program} (w : World) (d : Option Tmp) (ty : TypeId) (pos : String) (after : Array Edge) (gd : Option (Nat × Bool)) (a : Act) (C : World → Prop) (v : Value)
@[go_sem ↓] theorem quiet_load_agg (t : TypeId) (x : Operand) (hx : plainPtr (a.eval x) = true) (ha : (isAgg t).run P w = .ok true w) (hs : (sizeOf t).run P w = .ok (szOf P w t) w) :
    Oper.quietAt P ⟨d, .load t x, ty, pos, after, gd⟩ a C w v =
      viaRow (rowAt (obj w (pB (a.eval x))) (pO (a.eval x)) (szOf P w t)) (fun c => .agg c = v) (rawQ P ⟨d, .load t x, ty, pos, after, gd⟩ a C w v) := by
  cases hr : rowAt (obj w (pB (a.eval x))) (pO (a.eval x)) (szOf P w t) with
  | none => rfl
  | some c =>
    obtain ⟨g, o, e⟩ := plainPtr_ex hx
    unfold Oper.quietAt execOp
    rw [e] at hr
    simp only [pB_lit, pO_lit] at hr ⊢
    simp only [e, Instr.loadAt, Instr.sureAddr, Sem.run_bind, Sem.run_pure, Result.andThen_ok]
    rw [run_loadVar_agg w t _ _ ha hs (by rw [hr]; rfl), hr]
    simp [Oper.quietUpon, viaRow]
@[go_sem ↓] theorem quiet_index_arr (t : TypeId) (x y : Operand) (hx : isAggV (a.eval x) = true) (hy : isNum (a.eval y) = true) (ht : P.underlying t = some (.array (P.arrayLen t) (P.elem t)))
    (h0 : 0 ≤ numOf (a.eval y)) (h1 : numOf (a.eval y) < P.arrayLen t) (ha : (isAgg (P.elem t)).run P w = .ok false w) (hs : (sizeOf (P.elem t)).run P w = .ok 1 w) :
    Oper.quietAt P ⟨d, .index t x y, ty, pos, after, gd⟩ a C w v = viaVal (nth (aggOf (a.eval x)) (numOf (a.eval y)).toNat) (fun u => u = v) (rawQ P ⟨d, .index t x y, ty, pos, after, gd⟩ a C w v) := by
  cases hc : nth (aggOf (a.eval x)) (numOf (a.eval y)).toNat with
  | none => rfl
  | some u =>
    obtain ⟨l, e⟩ := isAggV_ex hx
    obtain ⟨k, n, e2⟩ := isNum_ex hy
    unfold Oper.quietAt execOp
    rw [e] at hc
    rw [e2] at hc h0 h1
    simp only [aggOf_lit, numOf_lit] at hc h0 h1
    have := run_index_arr (P := P) w t l k n ht h0 h1 ha hs (by rw [hc]; rfl)
    simp only [e, e2, Sem.run_bind, this, Result.andThen_ok, Sem.run_pure, hc]
    simp [Oper.quietUpon, viaVal]
end

/-- the function's end where its one result is an array or a struct in memory -/
theorem ret_row {P : Program} {fn : Func} {R : Ending → World → Prop} {a : Act} {w : World} {p : Tmp} {t : TypeId} {g o : Nat} {c : Array Value} (h : fn.results = #[.cell p t])
    (hp : a.tmps.getD p undef = .pointer (some ⟨g, o, none⟩)) (ha : (isAgg t).run P w = .ok true w) (hs : (sizeOf t).run P w = .ok (szOf P w t) w) (hr : rowAt (obj w g) o (szOf P w t) = some c) (hd : a.defers = [])
    (hR : R (.returned (.agg c)) w) : bodyPost P fn R .ret a w := by
  refine bodyPost_ret (v := .agg c) ?_ hd hR
  have hl := run_loadVar_agg (P := P) w t g o ha hs (by rw [hr]; rfl)
  rw [hr] at hl
  have hp' : a.tmps[p]?.getD undef = .pointer (some ⟨g, o, none⟩) := by simpa using hp
  simp [results, h, hp', asAddr, hl]

/-! ### rows of words -/

/-- eight noughts -/
def z8 : Array Value := #[.int .u64 0, .int .u64 0, .int .u64 0, .int .u64 0, .int .u64 0, .int .u64 0, .int .u64 0, .int .u64 0]
@[go_sem] theorem z8_size : z8.size = 8 := by unfold z8; simp
/-- a word of a row -/
def wd (l : List Int) (i : Nat) : Int := l.getD i 0
/-- the cells of a row of words -/
def cs (l : List Int) : Array Value := (l.map (Value.int .u64)).toArray
@[go_sem] theorem cs_size (l : List Int) : (cs l).size = l.length := by simp [cs]
@[go_sem] theorem cs_flat (l : List Int) : flat (cs l) = true := by simp [flat, cs, Value.oneCell']
@[go_sem] theorem cs_get (l : List Int) (i : Nat) (h : i < l.length) : nth (cs l) i = some (.int .u64 (wd l i)) := by simp [nth, cs, h, wd]
@[go_sem] theorem cs_set (l : List Int) (i : Nat) (v : Int) : (cs l).setIfInBounds i (.int .u64 v) = cs (l.set i v) := by simp [cs, List.map_set]
@[go_sem] theorem cs_extract (l : List Int) (n : Nat) (h : n = l.length) : (cs l).extract 0 n = cs l := by
  subst h; rw [← cs_size, Array.extract_size]
/-! ### two rows of words held against each other -/
theorem wd_ext {a b : List Int} {n : Nat} (ha : a.length = n) (hb : b.length = n) (h : ∀ i, i < n → wd a i = wd b i) : a = b := by
  apply List.ext_getElem (by omega)
  intro i h1 h2
  have := h i (by omega)
  simpa [wd, h1, h2] using this
section
variable {P : Program} (w : World)
theorem run_equalIn_words (d : Nat) (t : TypeId) (a b : List Int) (n : Nat) (e : TypeId) (k : IntKind) (ht : P.underlying t = some (.array n e)) (he : P.underlying e = some (.int k)) (hs : (sizeOf e).run P w = .ok 1 w) (hg : (isAgg e).run P w = .ok false w)
    (ha : a.length = n) (hb : b.length = n) : (Op.equalIn (d + 2) t (.agg (cs a)) (.agg (cs b))).run P w = .ok (a == b) w := by
  have pe0 : ∀ x y : Int, Sem.run P (Op.equalIn (d + 1) e (.int .u64 x) (.int .u64 y)) w = .ok (x == y) w := fun x y => run_equalIn_int w d e .u64 k _ _ he
  rw [show d + 2 = (d + 1) + 1 from rfl]
  generalize d + 1 = d1 at pe0 ⊢
  simp only [Op.equalIn, Sem.run_bind, run_underlying ht, Result.andThen_ok, hs]
  rw [Std.Legacy.Range.forIn_eq_forIn_range']
  have key : ∀ m i, i + m = n → (∀ j, j < i → wd a j = wd b j) → (Sem.run P (do
      let r ← forIn (List.range' i m) ((none, ()) : Option Bool × Unit) fun i r => do
          let __do_lift ← part e (cs a) (i * 1)
          let __do_lift_1 ← part e (cs b) (i * 1)
          let __do_lift_2 ← Op.equalIn d1 e __do_lift __do_lift_1
          if (!__do_lift_2) = true then pure (ForInStep.done (some false, ())) else pure (ForInStep.yield (none, ()))
      match r.fst with
      | some r => pure r
      | none => pure true) w) = .ok (a == b) w := by
    intro m
    induction m with
    | zero =>
      intro i hi hj
      have : a = b := wd_ext ha hb (fun j h => hj j (by omega))
      simp [this]
    | succ m ih =>
      intro i hi hj
      have pa : Sem.run P (part e (cs a) (i * 1)) w = .ok (.int .u64 (wd a i)) w := by
        have := cs_get a i (by omega)
        have h' : (cs a)[i]? = some (.int .u64 (wd a i)) := this
        simp [part, hg, h']
      have pb : Sem.run P (part e (cs b) (i * 1)) w = .ok (.int .u64 (wd b i)) w := by
        have := cs_get b i (by omega)
        have h' : (cs b)[i]? = some (.int .u64 (wd b i)) := this
        simp [part, hg, h']
      have pe := pe0 (wd a i) (wd b i)
      by_cases hv : wd a i = wd b i
      · have := ih (i + 1) (by omega) (fun j hj' => by
          by_cases e : j = i
          · subst e; exact hv
          · exact hj j (by omega))
        rw [List.range'_succ]
        have h1 : (wd a i == wd b i) = true := by simpa using hv
        simp only [List.forIn_cons, Sem.run_bind, pa, pb, pe, Result.andThen_ok, h1, Bool.not_true, Bool.false_eq_true, if_false, Sem.run_pure] at this ⊢
        exact this
      · have hne : ¬ a = b := fun e => hv (by rw [e])
        rw [List.range'_succ]
        simp only [List.forIn_cons, Sem.run_bind, pa, pb, pe, Result.andThen_ok]
        have h1 : (wd a i == wd b i) = false := by simpa using hv
        simp [h1, hne]
  have := key n 0 (by omega) (fun j hj => by omega)
  simp only [Sem.run_bind] at this
  simp [Std.Legacy.Range.size] at this ⊢
  refine Eq.trans ?_ this
  congr 1
  funext r w'
  rcases r with ⟨_ | _, _⟩ <;> rfl
@[go_sem high] theorem run_eql_words (t : TypeId) (a b : List Int) (ht : P.underlying t = some (.array (P.arrayLen t) (P.elem t))) (he : P.underlying (P.elem t) = some (.int .u64)) (hs : (sizeOf (P.elem t)).run P w = .ok 1 w) (hg : (isAgg (P.elem t)).run P w = .ok false w)
    (ha : a.length = P.arrayLen t) (hb : b.length = P.arrayLen t) : (binOp .eql t (.agg (cs a)) (.agg (cs b))).run P w = .ok (.bool (a == b)) w := by
  have := run_equalIn_words (P := P) w 9998 t a b _ _ .u64 ht he hs hg ha hb
  simp only [binOp]
  simp [Op.equal, Op.maxDepth, this]
@[go_sem high] theorem run_neq_words (t : TypeId) (a b : List Int) (ht : P.underlying t = some (.array (P.arrayLen t) (P.elem t))) (he : P.underlying (P.elem t) = some (.int .u64)) (hs : (sizeOf (P.elem t)).run P w = .ok 1 w) (hg : (isAgg (P.elem t)).run P w = .ok false w)
    (ha : a.length = P.arrayLen t) (hb : b.length = P.arrayLen t) : (binOp .neq t (.agg (cs a)) (.agg (cs b))).run P w = .ok (.bool (!(a == b))) w := by
  have := run_equalIn_words (P := P) w 9998 t a b _ _ .u64 ht he hs hg ha hb
  simp only [binOp]
  simp [Op.equal, Op.maxDepth, this]
end

/-! ### a world with more: new blocks and draws -/

/-- new blocks, and a count of draws -/
structure Extra where
  objs : Array Obj
  count : Nat
instance : Nonempty Extra := ⟨⟨#[], 0⟩⟩
/-- the world with more blocks, and another count of draws -/
def more (w : World) (x : Extra) : World := { w with heap := w.heap ++ x.objs, drawn := x.count }
section
variable (w : World) (x : Extra)
theorem more_below : Below w.heap.size w (more w x) := by
  refine ⟨rfl, rfl, rfl, by simp [more], fun k hk => ?_⟩
  simp [more, Array.getElem?_append, hk]
theorem more_of_below {w w' : World} (h : Below w.heap.size w w') : ∃ x, w' = more w x := by
  refine ⟨⟨w'.heap.extract w.heap.size w'.heap.size, w'.drawn⟩, ?_⟩
  obtain ⟨h1, h2, h3, h4, h5⟩ := h
  cases w' with
  | mk heap tape drawn os output =>
    simp only at h1 h2 h3 h4 h5
    subst h1 h2 h3
    simp only [more]
    congr 1
    apply Array.ext_getElem?
    intro k
    by_cases hk : k < w.heap.size
    · rw [h5 k hk, Array.getElem?_append, if_pos hk]
    · rw [Array.getElem?_append, if_neg hk, Array.getElem?_extract]
      by_cases hk2 : k < heap.size
      · rw [if_pos (by omega)]; congr 1; omega
      · rw [if_neg (by omega)]; exact Array.getElem?_eq_none (by omega)
@[go_sem] theorem obj_more (n : Nat) (h : n < w.heap.size) : obj (more w x) n = obj w n := (more_below w x).block n h
theorem obj_below {B : Nat} {w w' : World} (h : Below B w w') {n : Nat} (hn : n < B) : obj w' n = obj w n := h.block n hn
theorem lt_of_obj {w : World} {g : Nat} {o : Obj} (h : obj w g = some o) : g < w.heap.size := by
  rcases Nat.lt_or_ge g w.heap.size with h' | h'
  · exact h'
  · unfold obj at h; rw [Array.getElem?_eq_none h'] at h; cases h
/-- a block stays behind a call that makes new ones alone -/
theorem keep {w w' : World} (hb : Below w.heap.size w w') {g : Nat} {o : Obj} (h : obj w g = some o) : obj w' g = some o := (obj_below hb (lt_of_obj h)).trans h
theorem keepA {w : World} (x : Obj) {g : Nat} {o : Obj} (h : obj w g = some o) : obj (w.alloc x) g = some o := (obj_alloc_past w x g (lt_of_obj h)).trans h
theorem newA (w : World) (x : Obj) : obj (w.alloc x) w.heap.size = some x := obj_alloc_at w x _ rfl
theorem size_more : w.heap.size ≤ (more w x).heap.size := by simp [more]
theorem more_more (y : Extra) : more (more w x) y = more w ⟨x.objs ++ y.objs, y.count⟩ := by simp [more, Array.append_assoc]
theorem more_self : w = more w ⟨#[], w.drawn⟩ := by simp [more]
theorem more_drew : w.drew = more w ⟨#[], w.drawn + 1⟩ := by unfold more World.drew; simp only [Array.append_empty]
end

section
variable {P : Program} {ops : Array Oper}
/-- **A REGION THAT DRAWS, WHOSE OPERATIONS READ OLD BLOCKS AND WHOSE CALLEES MAKE NEW ONES ALONE: ONE WALK IN THE ORDER OF THE TEXT.** -/
theorem wp_region_more {id : Nat} {Q : Exit → Act → World → Prop} {a : Act} {w : World} {l : List Oper} (hm : P.follows .mixedOrders = true) (hB : Region.lexB .any l.toArray = true)
    (h : wpQuiet P l.toArray (fun w' => ∃ x, w' = more w x) (fun a' => ∀ w', (∃ x, w' = more w x) → Q .normal a' w') l a) : (Code.region id l.toArray true).wp P Q a w :=
  wp_region_quiet (C := fun w' => ∃ x, w' = more w x) hm hB ⟨_, more_drew w⟩ (by simpa using h)
/-- a callee's contract, met in a world with more -/
theorem more_call {f : FuncId} {args : Array Value} {w : World} {x : Extra} {v : Value}
    (h : Calls P f args (more w x) fun e w' => e = .returned v ∧ Below (more w x).heap.size (more w x) w') : Calls P f args (more w x) fun e w'' => e = .returned v ∧ ∃ y, w'' = more w y :=
  h.mono fun _ _ ⟨he, hb⟩ => by
    obtain ⟨y, rfl⟩ := more_of_below hb
    exact ⟨he, _, more_more w x y⟩
end
@[go_sem] theorem agg8_fold (a b c d e f g h : Int) : Value.agg #[.int .u64 a, .int .u64 b, .int .u64 c, .int .u64 d, .int .u64 e, .int .u64 f, .int .u64 g, .int .u64 h] = .agg (cs [a, b, c, d, e, f, g, h]) := rfl
@[go_sem] theorem cs_ne (a : Int) (l : List Int) : (cs (a :: l) = #[]) = False := by simp [cs]
theorem wd_get (l : List Int) (i : Nat) (h : i < l.length) : wd l i = l[i] := by simp [wd, h]
end Go.Proofs.Ytfhcgnkjncfeiaa
