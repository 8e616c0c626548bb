/- Contracts and laws of their own, used by the claim's theorem: A small calculus of blocks for the walks: what a block holds, as an equation on the heap, behind new blocks, draws and stores; whole rows of cells read and written; rows of words. -/
import Derived.Test.YtphmfaddgpjndaaGreatChecked
import Derived.WalkKit
import Derived.WalkLawsBesides
import Derived.WalkSpells
import Derived.Lib.Hide
import Derived.Deep.QuietTactic
import Derived.BigQuiet
import Derived.Orders
import Derived.Lib.MinMax
import Derived.StillTail
namespace Go.Proofs.YtphmfaddgpjndaaGreat
open Go.ChangeShapes Go.WideShapes Go.RowKit

/-- an array's place (behind a name: simp's own words on arrays stay away) -/
def nth (c : Array Value) (i : Nat) : Option Value := c[i]?
@[go_sem] theorem nth_lit (l : List Value) (i : Nat) : nth l.toArray i = l[i]? := by simp [nth]
/-- a block's cell -/
def cellAt (o : Option Obj) (i : Nat) : Option Value := match o with | some (.cells c _ _) => nth c i | _ => none
/-- may a block's cell not be written? -/
def iceAt (o : Option Obj) (i : Nat) : Bool := match o with | some (.cells _ _ (lo, hi)) => decide (lo ≤ i) && decide (i < hi) | _ => false
/-- a row of a block's cells -/
def rowAt (o : Option Obj) (off n : Nat) : Option (Array Value) := match o with | some (.cells c _ _) => if off + n ≤ c.size then some (c.extract off (off + n)) else none | _ => none
/-- a block with one cell written -/
def setAt (i : Nat) (v : Value) : Obj → Obj
  | .cells c t f => .cells (c.setIfInBounds i v) t f
  | o => o
/-- a block with its cells replaced -/
def withCells (cs : Array Value) : Obj → Obj
  | .cells _ t f => .cells cs t f
  | o => o
/-- a row of cells with a part replaced -/
def splice (c : Array Value) (off : Nat) (vs : Array Value) : Array Value := (c.toList.take off ++ vs.toList ++ c.toList.drop (off + vs.size)).toArray
theorem splice_whole (c vs : Array Value) (h : c.size = vs.size) : splice c 0 vs = vs := by
  unfold splice; rw [List.drop_eq_nil_of_le (by simp; omega)]; simp
attribute [go_sem] splice_whole
/-- are all cells' values of one cell? -/
def flat (c : Array Value) : Bool := c.toList.all Value.oneCell'
@[go_sem] theorem flat_lit (l : List Value) : flat l.toArray = l.all Value.oneCell' := rfl
/-- a block's cells -/
def cellsIn (o : Option Obj) : Array Value := match o with | some (.cells c _ _) => c | _ => #[]
/-- a type's size -/
def szOf (P : Program) (w : World) (t : TypeId) : Nat := match (sizeOf t).run P w with | .ok n _ => n | _ => 0
attribute [go_sem] szOf

@[go_sem] theorem cellAt_some (c : Array Value) (t : TypeId) (f : Nat × Nat) (i : Nat) : cellAt (some (.cells c t f)) i = nth c i := rfl
@[go_sem] theorem iceAt_some (c : Array Value) (t : TypeId) (i : Nat) : iceAt (some (.cells c t (0, 0))) i = false := by simp [iceAt]
@[go_sem] theorem rowAt_some (c : Array Value) (t : TypeId) (f : Nat × Nat) (off n : Nat) (h : off + n ≤ c.size) : rowAt (some (.cells c t f)) off n = some (c.extract off (off + n)) := by simp [rowAt, h]
@[go_sem] theorem setAt_cells (i : Nat) (v : Value) (c : Array Value) (t : TypeId) (f : Nat × Nat) : setAt i v (.cells c t f) = .cells (c.setIfInBounds i v) t f := rfl
@[go_sem] theorem withCells_cells (cs c : Array Value) (t : TypeId) (f : Nat × Nat) : withCells cs (.cells c t f) = .cells cs t f := rfl
@[go_sem] theorem cellsIn_some (c : Array Value) (t : TypeId) (f : Nat × Nat) : cellsIn (some (.cells c t f)) = c := rfl

section
variable (w : World)
/-- the block of a number (behind a name: simp's own words on lists stay away) -/
def obj (w : World) (g : Nat) : Option Obj := w.heap[g]?
@[go_sem] theorem cell?_heap (g i : Nat) : w.cell? ⟨g, i, none⟩ = cellAt (obj w g) i := by
  unfold World.cell? cellAt obj nth
  simp only
  cases w.heap[g]? with
  | none => rfl
  | some o => cases o <;> simp
@[go_sem] theorem frozen?_heap (g i : Nat) : w.frozen? ⟨g, i, none⟩ = iceAt (obj w g) i := by
  unfold World.frozen? iceAt obj
  simp only
  cases w.heap[g]? with
  | none => rfl
  | some o => cases o <;> simp
@[go_sem] theorem obj_alloc_at (o : Obj) (n : Nat) (h : n = w.heap.size) : obj (w.alloc o) n = some o := by
  subst h; exact heap_alloc_new w o
@[go_sem] theorem obj_alloc_past (o : Obj) (n : Nat) (h : n < w.heap.size) : obj (w.alloc o) n = obj w n := by
  show (w.heap.push o)[n]? = w.heap[n]?
  rw [Array.getElem?_push, if_neg (Nat.ne_of_lt h)]
@[go_sem] theorem obj_drew (n : Nat) : obj w.drew n = obj w n := rfl
@[go_sem] theorem obj_drewN (k n : Nat) : obj (w.drewN k) n = obj w n := rfl
@[go_sem] theorem obj_setCell_ne (a : Addr) (v : Value) (n : Nat) (h : n ≠ a.block) : obj (w.setCell a v) n = obj w n := heap_setCell_other w a n v h
@[go_sem] theorem obj_setCell_eq (g i : Nat) (v : Value) : obj (w.setCell ⟨g, i, none⟩ v) g = (obj w g).map (setAt i v) := by
  unfold obj
  simp only [World.setCell, Array.getElem?_modify, if_true]
  cases w.heap[g]? with
  | none => rfl
  | some o => cases o <;> simp [setAt]
@[go_sem] theorem obj_setRow_ne (g : Nat) (cs : Array Value) (n : Nat) (h : n ≠ g) : obj (w.setRow g cs) n = obj w n := setRow_other w g n cs h
@[go_sem] theorem obj_setRow_eq (g : Nat) (cs : Array Value) : obj (w.setRow g cs) g = (obj w g).map (withCells cs) := by
  unfold obj
  simp only [World.setRow, Array.getElem?_modify, if_true]
  cases w.heap[g]? with
  | none => rfl
  | some o => cases o <;> simp [withCells]
@[go_sem] theorem setRow_alloc_at (c cs : Array Value) (t : TypeId) (n : Nat) (h : n = w.heap.size) : (w.alloc (.cells c t)).setRow n cs = w.alloc (.cells cs t) := by
  subst h
  unfold World.setRow World.alloc
  congr 1
  apply Array.ext_getElem?
  intro k
  simp only [Array.getElem?_modify, Array.getElem?_push]
  by_cases hk : w.heap.size = k
  · subst hk; simp
  · rw [if_neg hk, if_neg (fun e => hk e.symm), if_neg (fun e => hk e.symm)]
@[go_sem] theorem setRow_alloc_past (o : Obj) (cs : Array Value) (n : Nat) (h : n < w.heap.size) : (w.alloc o).setRow n cs = (w.setRow n cs).alloc o := by
  unfold World.setRow World.alloc
  congr 1
  apply Array.ext_getElem?
  intro k
  simp only [Array.getElem?_modify, Array.getElem?_push, Array.size_modify]
  by_cases hk : k = w.heap.size
  · subst hk
    simp [Nat.ne_of_lt h]
  · simp [hk]
@[go_sem] theorem setRow_drew (g : Nat) (cs : Array Value) : w.drew.setRow g cs = (w.setRow g cs).drew := rfl
@[go_sem] theorem sizeH_setRow (g : Nat) (cs : Array Value) : (w.setRow g cs).heap.size = w.heap.size := size_setRow w g cs
end

section
variable {P : Program} (w : World)

theorem cellAt_of_row {o : Option Obj} {off n : Nat} (h : (rowAt o off n).isSome = true) (j : Nat) (hj : j < n) : cellAt o (off + j) = some (((rowAt o off n).getD #[]).getD j undef) := by
  cases o with
  | none => simp [rowAt] at h
  | some o =>
    cases o with
    | cells c t f =>
      simp only [rowAt] at h ⊢
      by_cases hc : off + n ≤ c.size
      · simp only [if_pos hc, Option.getD_some, cellAt]
        have h1 : off + j < c.size := by omega
        show c[off + j]? = _
        rw [Array.getElem?_eq_getElem h1]
        simp [Array.getD, Array.getElem_extract]
        omega
      · simp [hc] at h
    | _ => simp [rowAt] at h

theorem addr_add (g off j : Nat) : (⟨g, off, none⟩ : Addr).add j = ⟨g, off + j, none⟩ := by
  unfold Addr.add; split <;> simp_all

/-- A WHOLE ROW READ. -/
theorem run_loadVar_agg (t : TypeId) (g off : Nat) (ha : (isAgg t).run P w = .ok true w) (hs : (sizeOf t).run P w = .ok (szOf P w t) w) (hr : (rowAt (obj w g) off (szOf P w t)).isSome = true) :
    (loadVar t ⟨g, off, none⟩).run P w = .ok (.agg ((rowAt (obj w g) off (szOf P w t)).getD #[])) w := by
  have hsz : ((rowAt (obj w g) off (szOf P w t)).getD #[]).size = szOf P w t := by
    revert hr
    cases obj w g with
    | none => simp [rowAt]
    | some o =>
      cases o with
      | cells c ty f =>
        simp only [rowAt]
        by_cases hc : off + szOf P w t ≤ c.size
        · simp only [if_pos hc]; intro _; simp; omega
        · simp [hc]
      | _ => simp [rowAt]
  have hl := run_loadCells (P := P) w ⟨g, off, none⟩ (szOf P w t) (fun j => ((rowAt (obj w g) off (szOf P w t)).getD #[]).getD j undef)
    (fun j hj => by rw [addr_add, cell?_heap]; exact cellAt_of_row hr j hj)
  simp only [loadVar, Sem.run_bind, ha, Result.andThen_ok, if_true, hs, hl, Sem.run_pure]
  congr 2
  apply Array.ext
  · simp [hsz]
  · intro i h1 h2
    simp [Array.getD, h2]

theorem setRow_same (w : World) (g : Nat) (c : Array Value) (t : TypeId) (hw : obj w g = some (.cells c t (0, 0))) : w.setRow g c = w := by
  unfold World.setRow
  cases w with
  | mk heap tape drawn os output =>
    congr 1
    apply Array.ext_getElem?
    intro k
    simp only [Array.getElem?_modify]
    by_cases hk : g = k
    · subst hk
      simp only [if_true]
      have hw' : heap[g]? = some (.cells c t (0, 0)) := hw
      rw [hw']; rfl
    · rw [if_neg hk]
theorem setRow_setRow (w : World) (g : Nat) (c d : Array Value) : (w.setRow g c).setRow g d = w.setRow g d := by
  unfold World.setRow
  congr 1
  apply Array.ext_getElem?
  intro k
  simp only [Array.getElem?_modify]
  by_cases hk : g = k
  · subst hk
    simp only [if_true]
    cases w.heap[g]? with
    | none => rfl
    | some o => cases o <;> rfl
  · simp [hk]

/-- A ROW OF ONE-CELL VALUES IS STORED CELL BY CELL. -/
theorem run_storeCells_row (g : Nat) (t : TypeId) (vs : List Value) (hv : ∀ v ∈ vs, v.oneCell' = true) : ∀ (w : World) (c : List Value) (off i : Nat), obj w g = some (.cells c.toArray t (0, 0)) → off + i + vs.length ≤ c.length →
    (storeCells ⟨g, off, none⟩ vs i).run P w = .ok () (w.setRow g (c.take (off + i) ++ vs ++ c.drop (off + i + vs.length)).toArray) := by
  induction vs with
  | nil =>
    intro w c off i hw hle
    simp only [storeCells, Sem.run_pure, List.append_nil, List.length_nil, Nat.add_zero, List.take_append_drop]
    rw [setRow_same w g _ t hw]
  | cons v vs ih =>
    intro w c off i hw hle
    simp only [List.length_cons] at hle
    have hc : w.cell? ⟨g, off + i, none⟩ = some c[off + i] := by
      rw [cell?_heap, hw, cellAt_some, nth, List.getElem?_toArray, List.getElem?_eq_getElem]
    have hf : w.frozen? ⟨g, off + i, none⟩ = false := by rw [frozen?_heap, hw, iceAt_some]
    have hst : (store ⟨g, off + i, none⟩ v).run P w = .ok () (w.setCell ⟨g, off + i, none⟩ v) := by
      rw [run_store P w _ v _ (hv v (by simp)), hc]; simp [hf]
    have hsc : w.setCell ⟨g, off + i, none⟩ v = w.setRow g (c.set (off + i) v).toArray := by
      rw [setCell_eq_setRow w g (off + i) c.toArray t (0, 0) v hw, List.setIfInBounds_toArray]
    simp only [storeCells, Sem.run_bind, addr_add, hst, Result.andThen_ok]
    rw [hsc]
    have hw2 : obj (w.setRow g (c.set (off + i) v).toArray) g = some (.cells (c.set (off + i) v).toArray t (0, 0)) := by
      rw [obj_setRow_eq, hw]; rfl
    rw [ih (fun u hu => hv u (by simp [hu])) _ _ off (i + 1) hw2 (by simp; omega), setRow_setRow]
    have e : (c.set (off + i) v).take (off + (i + 1)) ++ vs ++ (c.set (off + i) v).drop (off + (i + 1) + vs.length) = c.take (off + i) ++ (v :: vs) ++ c.drop (off + i + (v :: vs).length) := by
      have h1 : (c.set (off + i) v).take (off + (i + 1)) = c.take (off + i) ++ [v] := by
        rw [← Nat.add_assoc, List.take_succ_eq_append_getElem (by simp; omega), List.getElem_set_self, List.take_set_of_le (Nat.le_refl _)]
      have h2 : (c.set (off + i) v).drop (off + (i + 1) + vs.length) = c.drop (off + i + (v :: vs).length) := by
        rw [List.drop_set_of_lt (by omega)]; congr 1; simp; omega
      rw [h1, h2]; simp
    rw [e]

/-- a block none of whose cells is barred -/
def unbarred (o : Option Obj) : Bool := match o with | some (.cells _ _ f) => f.1 == 0 && f.2 == 0 | _ => false
@[go_sem] theorem unbarred_some (c : Array Value) (t : TypeId) : unbarred (some (.cells c t (0, 0))) = true := rfl
/-- A WHOLE ROW WRITTEN. -/
theorem run_storeVar_agg (t : TypeId) (g off : Nat) (vs : Array Value) (hs : (sizeOf t).run P w = .ok (szOf P w t) w) (hn : vs.size = szOf P w t) (hv : flat vs = true)
    (hr : (rowAt (obj w g) off (szOf P w t)).isSome = true) (hi : unbarred (obj w g) = true) :
    (storeVar t ⟨g, off, none⟩ (.agg vs)).run P w = .ok () (w.setRow g (splice (cellsIn (obj w g)) off vs)) := by
  simp only [storeVar, Sem.run_bind, hs, Result.andThen_ok, Value.cells, hn]
  cases hg : obj w g with
  | none => simp [hg, rowAt] at hr
  | some o =>
    cases o with
    | cells c ty f =>
      obtain ⟨f1, f2⟩ := f
      rw [hg] at hi
      simp [unbarred] at hi
      obtain ⟨rfl, rfl⟩ := hi
      have hle : off + vs.size ≤ c.size := by
        rw [hg] at hr; simp only [rowAt] at hr
        by_cases h : off + szOf P w t ≤ c.size
        · omega
        · simp [h] at hr
      have := run_storeCells_row (P := P) g ty vs.toList (List.all_eq_true.1 hv) w c.toList off 0 (by simpa using hg) (by simpa using hle)
      simp only [Nat.add_zero] at this
      simp [this, cellsIn, splice]
    | _ => simp [hg, rowAt] at hr

/-- AN ELEMENT OF AN ARRAY BY VALUE. -/
theorem run_index_arr (t : TypeId) (cs : Array Value) (k : IntKind) (i : Int) (ht : P.underlying t = some (.array (P.arrayLen t) (P.elem t))) (h0 : 0 ≤ i) (h1 : i < P.arrayLen t)
    (ha : (isAgg (P.elem t)).run P w = .ok false w) (hs : (sizeOf (P.elem t)).run P w = .ok 1 w) (hc : (nth cs i.toNat).isSome = true) :
    (Instr.index t (.agg cs) (.int k i)).run P w = .ok ((nth cs i.toNat).getD undef) w := by
  obtain ⟨v, hv⟩ := Option.isSome_iff_exists.1 hc
  have hv' : cs[i.toNat]? = some v := hv
  simp [Instr.index, run_underlying ht, asIntOf, h0, h1, hs, part, ha, hv, hv']
end

/-! ### the same at the level of an operation, ahead of all unfolding -/

/-- a pointer to a cell -/
def plainPtr : Value → Bool
  | .pointer (some ⟨_, _, none⟩) => true
  | _ => false
def pB : Value → Nat
  | .pointer (some a) => a.block
  | _ => 0
def pO : Value → Nat
  | .pointer (some a) => a.off
  | _ => 0
/-- an aggregate's cells -/
def aggOf : Value → Array Value
  | .agg c => c
  | _ => #[]
def isAggV : Value → Bool
  | .agg _ => true
  | _ => false
def numOf : Value → Int
  | .int _ n => n
  | _ => 0
def isNum : Value → Bool
  | .int _ _ => true
  | _ => false
section
variable (g o : Nat) (c : Array Value) (k : IntKind) (n : Int)
@[go_sem] theorem plainPtr_lit : plainPtr (.pointer (some ⟨g, o, none⟩)) = true := rfl
@[go_sem] theorem pB_lit (a : Addr) : pB (.pointer (some a)) = a.block := rfl
@[go_sem] theorem pO_lit (a : Addr) : pO (.pointer (some a)) = a.off := rfl
@[go_sem] theorem aggOf_lit : aggOf (.agg c) = c := rfl
@[go_sem] theorem isAggV_lit : isAggV (.agg c) = true := rfl
@[go_sem] theorem numOf_lit : numOf (.int k n) = n := rfl
@[go_sem] theorem isNum_lit : isNum (.int k n) = true := rfl
theorem plainPtr_ex {v : Value} (h : plainPtr v = true) : ∃ g o, v = .pointer (some ⟨g, o, none⟩) := by
  unfold plainPtr at h
  split at h
  · exact ⟨_, _, rfl⟩
  · cases h
theorem isAggV_ex {v : Value} (h : isAggV v = true) : ∃ c, v = .agg c := by
  unfold isAggV at h
  split at h
  · rename_i c; exact ⟨c, rfl⟩
  · cases h
theorem isNum_ex {v : Value} (h : isNum v = true) : ∃ k n, v = .int k n := by
  unfold isNum at h
  split at h
  · exact ⟨_, _, rfl⟩
  · cases h
end

/-- a row of cells, or something other -/
def viaRow (o : Option (Array Value)) (k : Array Value → Prop) (z : Prop) : Prop := match o with | some c => k c | none => z
@[go_sem] theorem viaRow_some (c : Array Value) (k : Array Value → Prop) (z : Prop) : viaRow (some c) k z = k c := rfl
/-- a value, or something other -/
def viaVal (o : Option Value) (k : Value → Prop) (z : Prop) : Prop := match o with | some c => k c | none => z
@[go_sem] theorem viaVal_some (c : Value) (k : Value → Prop) (z : Prop) : viaVal (some c) k z = k c := rfl
/-- an operation as it stands -/
def rawOp (P : Program) (o : Oper) (a : Act) (w : World) (K : Act → World → Prop) (Q : Exit → Act → World → Prop) : Prop := Oper.wp P o a w K Q
/-- a block's cells with a part replaced -/
def spliceAt (o : Option Obj) (off : Nat) (vs : Array Value) : Option (Array Value) := match o with
  | some (.cells c _ f) => if f.1 = 0 ∧ f.2 = 0 ∧ off + vs.size ≤ c.size then some (splice c off vs) else none
  | _ => none
@[go_sem] theorem spliceAt_some (c : Array Value) (t : TypeId) (off : Nat) (vs : Array Value) (h : off + vs.size ≤ c.size) : spliceAt (some (.cells c t (0, 0))) off vs = some (splice c off vs) := by
  simp [spliceAt, h]

section
variable {P : Program} (w : World) (d : Option Tmp) (ty : TypeId) (pos : String) (after : Array Edge) (gd : Option (Nat × Bool)) (a : Act) (K : Act → World → Prop) (Q : Exit → Act → World → Prop)

@[go_sem ↓] theorem wp_load_agg (t : TypeId) (x : Operand) (hx : plainPtr (a.eval x) = true) (ha : (isAgg t).run P w = .ok true w) (hs : (sizeOf t).run P w = .ok (szOf P w t) w) :
    Oper.wp P ⟨d, .load t x, ty, pos, after, gd⟩ a w K Q =
      viaRow (rowAt (obj w (pB (a.eval x))) (pO (a.eval x)) (szOf P w t)) (fun c => K (a.put d (.agg c)) w) (rawOp P ⟨d, .load t x, ty, pos, after, gd⟩ a w K Q) := by
  cases hr : rowAt (obj w (pB (a.eval x))) (pO (a.eval x)) (szOf P w t) with
  | none => rfl
  | some c =>
    obtain ⟨g, o, e⟩ := plainPtr_ex hx
    unfold Oper.wp execOp
    rw [e] at hr
    simp only [pB_lit, pO_lit] at hr ⊢
    simp only [e, Instr.loadAt, Instr.sureAddr, Sem.run_bind, Sem.run_pure, Result.andThen_ok]
    rw [run_loadVar_agg w t _ _ ha hs (by rw [hr]; rfl), hr]
    rfl
@[go_sem ↓] theorem wp_store_agg (t : TypeId) (x y : Operand) (hx : plainPtr (a.eval x) = true) (hy : isAggV (a.eval y) = true) (hs : (sizeOf t).run P w = .ok (szOf P w t) w)
    (hn : (aggOf (a.eval y)).size = szOf P w t) (hv : flat (aggOf (a.eval y)) = true) :
    Oper.wp P ⟨d, .store t x y, ty, pos, after, gd⟩ a w K Q =
      viaRow (spliceAt (obj w (pB (a.eval x))) (pO (a.eval x)) (aggOf (a.eval y))) (fun c => K (a.put d undef) (w.setRow (pB (a.eval x)) c)) (rawOp P ⟨d, .store t x y, ty, pos, after, gd⟩ a w K Q) := by
  cases hr : spliceAt (obj w (pB (a.eval x))) (pO (a.eval x)) (aggOf (a.eval y)) with
  | none => rfl
  | some c =>
    obtain ⟨g, o, e⟩ := plainPtr_ex hx
    obtain ⟨l, e2⟩ := isAggV_ex hy
    unfold Oper.wp execOp
    rw [e] at hr ⊢
    rw [e2] at hn hv hr
    simp only [pB_lit, pO_lit, aggOf_lit] at hr hn hv ⊢
    unfold spliceAt at hr
    split at hr
    · rename_i c0 t0 f0 ho
      split at hr
      · rename_i hc
        obtain ⟨hf1, hf2, hle⟩ := hc
        obtain ⟨f1, f2⟩ := f0
        simp only at hf1 hf2
        subst hf1 hf2
        have := run_storeVar_agg (P := P) w t g o l hs hn hv (by rw [ho]; simp only [rowAt]; rw [if_pos (by omega)]; rfl) (by rw [ho]; rfl)
        rw [ho] at this
        simp only [cellsIn_some] at this
        simp only [Option.some.injEq] at hr
        rw [hr] at this
        simp only [e, e2, Instr.storeAt, Instr.sureAddr, Sem.run_bind, Sem.run_pure, Result.andThen_ok]
        rw [this]
        rfl
      · cases hr
    · cases hr
@[go_sem ↓] theorem wp_index_arr (t : TypeId) (x y : Operand) (hx : isAggV (a.eval x) = true) (hy : isNum (a.eval y) = true) (ht : P.underlying t = some (.array (P.arrayLen t) (P.elem t)))
    (h0 : 0 ≤ numOf (a.eval y)) (h1 : numOf (a.eval y) < P.arrayLen t) (ha : (isAgg (P.elem t)).run P w = .ok false w) (hs : (sizeOf (P.elem t)).run P w = .ok 1 w) :
    Oper.wp P ⟨d, .index t x y, ty, pos, after, gd⟩ a w K Q = viaVal (nth (aggOf (a.eval x)) (numOf (a.eval y)).toNat) (fun v => K (a.put d v) w) (rawOp P ⟨d, .index t x y, ty, pos, after, gd⟩ a w K Q) := by
  cases hc : nth (aggOf (a.eval x)) (numOf (a.eval y)).toNat with
  | none => rfl
  | some v =>
    obtain ⟨l, e⟩ := isAggV_ex hx
    obtain ⟨k, n, e2⟩ := isNum_ex hy
    unfold Oper.wp execOp
    rw [e] at hc
    rw [e2] at hc h0 h1
    simp only [aggOf_lit, numOf_lit] at hc h0 h1
    have := run_index_arr (P := P) w t l k n ht h0 h1 ha hs (by rw [hc]; rfl)
    simp only [e, e2, Sem.run_bind, this, Result.andThen_ok, Sem.run_pure, hc]
    rfl
end

/-- an operation of a quiet walk as it stands -/
def rawQ (P : Program) (o : Oper) (a : Act) (C : World → Prop) (w : World) (v : Value) : Prop := Oper.quietAt P o a C w v
section
variable {P : Program} (w : World) (d : Option Tmp) (ty : TypeId) (pos : String) (after : Array Edge) (gd : Option (Nat × Bool)) (a : Act) (C : World → Prop) (v : Value)
@[go_sem ↓] theorem quiet_load_agg (t : TypeId) (x : Operand) (hx : plainPtr (a.eval x) = true) (ha : (isAgg t).run P w = .ok true w) (hs : (sizeOf t).run P w = .ok (szOf P w t) w) :
    Oper.quietAt P ⟨d, .load t x, ty, pos, after, gd⟩ a C w v =
      viaRow (rowAt (obj w (pB (a.eval x))) (pO (a.eval x)) (szOf P w t)) (fun c => .agg c = v) (rawQ P ⟨d, .load t x, ty, pos, after, gd⟩ a C w v) := by
  cases hr : rowAt (obj w (pB (a.eval x))) (pO (a.eval x)) (szOf P w t) with
  | none => rfl
  | some c =>
    obtain ⟨g, o, e⟩ := plainPtr_ex hx
    unfold Oper.quietAt execOp
    rw [e] at hr
    simp only [pB_lit, pO_lit] at hr ⊢
    simp only [e, Instr.loadAt, Instr.sureAddr, Sem.run_bind, Sem.run_pure, Result.andThen_ok]
    rw [run_loadVar_agg w t _ _ ha hs (by rw [hr]; rfl), hr]
    simp [Oper.quietUpon, viaRow]
@[go_sem ↓] theorem quiet_index_arr (t : TypeId) (x y : Operand) (hx : isAggV (a.eval x) = true) (hy : isNum (a.eval y) = true) (ht : P.underlying t = some (.array (P.arrayLen t) (P.elem t)))
    (h0 : 0 ≤ numOf (a.eval y)) (h1 : numOf (a.eval y) < P.arrayLen t) (ha : (isAgg (P.elem t)).run P w = .ok false w) (hs : (sizeOf (P.elem t)).run P w = .ok 1 w) :
    Oper.quietAt P ⟨d, .index t x y, ty, pos, after, gd⟩ a C w v = viaVal (nth (aggOf (a.eval x)) (numOf (a.eval y)).toNat) (fun u => u = v) (rawQ P ⟨d, .index t x y, ty, pos, after, gd⟩ a C w v) := by
  cases hc : nth (aggOf (a.eval x)) (numOf (a.eval y)).toNat with
  | none => rfl
  | some u =>
    obtain ⟨l, e⟩ := isAggV_ex hx
    obtain ⟨k, n, e2⟩ := isNum_ex hy
    unfold Oper.quietAt execOp
    rw [e] at hc
    rw [e2] at hc h0 h1
    simp only [aggOf_lit, numOf_lit] at hc h0 h1
    have := run_index_arr (P := P) w t l k n ht h0 h1 ha hs (by rw [hc]; rfl)
    simp only [e, e2, Sem.run_bind, this, Result.andThen_ok, Sem.run_pure, hc]
    simp [Oper.quietUpon, viaVal]
end

/-- the function's end where its one result is an array or a struct in memory -/
theorem ret_row {P : Program} {fn : Func} {R : Ending → World → Prop} {a : Act} {w : World} {p : Tmp} {t : TypeId} {g o : Nat} {c : Array Value} (h : fn.results = #[.cell p t])
    (hp : a.tmps.getD p undef = .pointer (some ⟨g, o, none⟩)) (ha : (isAgg t).run P w = .ok true w) (hs : (sizeOf t).run P w = .ok (szOf P w t) w) (hr : rowAt (obj w g) o (szOf P w t) = some c) (hd : a.defers = [])
    (hR : R (.returned (.agg c)) w) : bodyPost P fn R .ret a w := by
  refine bodyPost_ret (v := .agg c) ?_ hd hR
  have hl := run_loadVar_agg (P := P) w t g o ha hs (by rw [hr]; rfl)
  rw [hr] at hl
  have hp' : a.tmps[p]?.getD undef = .pointer (some ⟨g, o, none⟩) := by simpa using hp
  simp [results, h, hp', asAddr, hl]

/-! ### rows of words -/

/-- eight noughts -/
def z8 : Array Value := #[.int .u64 0, .int .u64 0, .int .u64 0, .int .u64 0, .int .u64 0, .int .u64 0, .int .u64 0, .int .u64 0]
@[go_sem] theorem z8_size : z8.size = 8 := by unfold z8; simp
/-- a word of a row -/
def wd (l : List Int) (i : Nat) : Int := l.getD i 0
/-- the cells of a row of words -/
def cs (l : List Int) : Array Value := (l.map (Value.int .u64)).toArray
@[go_sem] theorem cs_size (l : List Int) : (cs l).size = l.length := by simp [cs]
@[go_sem] theorem cs_flat (l : List Int) : flat (cs l) = true := by simp [flat, cs, Value.oneCell']
@[go_sem] theorem cs_get (l : List Int) (i : Nat) (h : i < l.length) : nth (cs l) i = some (.int .u64 (wd l i)) := by simp [nth, cs, h, wd]
@[go_sem] theorem cs_set (l : List Int) (i : Nat) (v : Int) : (cs l).setIfInBounds i (.int .u64 v) = cs (l.set i v) := by simp [cs, List.map_set]
@[go_sem] theorem cs_extract (l : List Int) (n : Nat) (h : n = l.length) : (cs l).extract 0 n = cs l := by
  subst h; rw [← cs_size, Array.extract_size]
/-! ### two rows of words held against each other -/
theorem wd_ext {a b : List Int} {n : Nat} (ha : a.length = n) (hb : b.length = n) (h : ∀ i, i < n → wd a i = wd b i) : a = b := by
  apply List.ext_getElem (by omega)
  intro i h1 h2
  have := h i (by omega)
  simpa [wd, h1, h2] using this
section
variable {P : Program} (w : World)
theorem run_equalIn_words (d : Nat) (t : TypeId) (a b : List Int) (n : Nat) (e : TypeId) (k : IntKind) (ht : P.underlying t = some (.array n e)) (he : P.underlying e = some (.int k)) (hs : (sizeOf e).run P w = .ok 1 w) (hg : (isAgg e).run P w = .ok false w)
    (ha : a.length = n) (hb : b.length = n) : (Op.equalIn (d + 2) t (.agg (cs a)) (.agg (cs b))).run P w = .ok (a == b) w := by
  have pe0 : ∀ x y : Int, Sem.run P (Op.equalIn (d + 1) e (.int .u64 x) (.int .u64 y)) w = .ok (x == y) w := fun x y => run_equalIn_int w d e .u64 k _ _ he
  rw [show d + 2 = (d + 1) + 1 from rfl]
  generalize d + 1 = d1 at pe0 ⊢
  simp only [Op.equalIn, Sem.run_bind, run_underlying ht, Result.andThen_ok, hs]
  rw [Std.Legacy.Range.forIn_eq_forIn_range']
  have key : ∀ m i, i + m = n → (∀ j, j < i → wd a j = wd b j) → (Sem.run P (do
      let r ← forIn (List.range' i m) ((none, ()) : Option Bool × Unit) fun i r => do
          let __do_lift ← part e (cs a) (i * 1)
          let __do_lift_1 ← part e (cs b) (i * 1)
          let __do_lift_2 ← Op.equalIn d1 e __do_lift __do_lift_1
          if (!__do_lift_2) = true then pure (ForInStep.done (some false, ())) else pure (ForInStep.yield (none, ()))
      match r.fst with
      | some r => pure r
      | none => pure true) w) = .ok (a == b) w := by
    intro m
    induction m with
    | zero =>
      intro i hi hj
      have : a = b := wd_ext ha hb (fun j h => hj j (by omega))
      simp [this]
    | succ m ih =>
      intro i hi hj
      have pa : Sem.run P (part e (cs a) (i * 1)) w = .ok (.int .u64 (wd a i)) w := by
        have := cs_get a i (by omega)
        have h' : (cs a)[i]? = some (.int .u64 (wd a i)) := this
        simp [part, hg, h']
      have pb : Sem.run P (part e (cs b) (i * 1)) w = .ok (.int .u64 (wd b i)) w := by
        have := cs_get b i (by omega)
        have h' : (cs b)[i]? = some (.int .u64 (wd b i)) := this
        simp [part, hg, h']
      have pe := pe0 (wd a i) (wd b i)
      by_cases hv : wd a i = wd b i
      · have := ih (i + 1) (by omega) (fun j hj' => by
          by_cases e : j = i
          · subst e; exact hv
          · exact hj j (by omega))
        rw [List.range'_succ]
        have h1 : (wd a i == wd b i) = true := by simpa using hv
        simp only [List.forIn_cons, Sem.run_bind, pa, pb, pe, Result.andThen_ok, h1, Bool.not_true, Bool.false_eq_true, if_false, Sem.run_pure] at this ⊢
        exact this
      · have hne : ¬ a = b := fun e => hv (by rw [e])
        rw [List.range'_succ]
        simp only [List.forIn_cons, Sem.run_bind, pa, pb, pe, Result.andThen_ok]
        have h1 : (wd a i == wd b i) = false := by simpa using hv
        simp [h1, hne]
  have := key n 0 (by omega) (fun j hj => by omega)
  simp only [Sem.run_bind] at this
  simp [Std.Legacy.Range.size] at this ⊢
  refine Eq.trans ?_ this
  congr 1
  funext r w'
  rcases r with ⟨_ | _, _⟩ <;> rfl
@[go_sem high] theorem run_eql_words (t : TypeId) (a b : List Int) (ht : P.underlying t = some (.array (P.arrayLen t) (P.elem t))) (he : P.underlying (P.elem t) = some (.int .u64)) (hs : (sizeOf (P.elem t)).run P w = .ok 1 w) (hg : (isAgg (P.elem t)).run P w = .ok false w)
    (ha : a.length = P.arrayLen t) (hb : b.length = P.arrayLen t) : (binOp .eql t (.agg (cs a)) (.agg (cs b))).run P w = .ok (.bool (a == b)) w := by
  have := run_equalIn_words (P := P) w 9998 t a b _ _ .u64 ht he hs hg ha hb
  simp only [binOp]
  simp [Op.equal, Op.maxDepth, this]
@[go_sem high] theorem run_neq_words (t : TypeId) (a b : List Int) (ht : P.underlying t = some (.array (P.arrayLen t) (P.elem t))) (he : P.underlying (P.elem t) = some (.int .u64)) (hs : (sizeOf (P.elem t)).run P w = .ok 1 w) (hg : (isAgg (P.elem t)).run P w = .ok false w)
    (ha : a.length = P.arrayLen t) (hb : b.length = P.arrayLen t) : (binOp .neq t (.agg (cs a)) (.agg (cs b))).run P w = .ok (.bool (!(a == b))) w := by
  have := run_equalIn_words (P := P) w 9998 t a b _ _ .u64 ht he hs hg ha hb
  simp only [binOp]
  simp [Op.equal, Op.maxDepth, this]
end

/-! ### a world with more: new blocks and draws -/

/-- new blocks, and a count of draws -/
structure Extra where
  objs : Array Obj
  count : Nat
instance : Nonempty Extra := ⟨⟨#[], 0⟩⟩
/-- the world with more blocks, and another count of draws -/
def more (w : World) (x : Extra) : World := { w with heap := w.heap ++ x.objs, drawn := x.count }
section
variable (w : World) (x : Extra)
theorem more_below : Below w.heap.size w (more w x) := by
  refine ⟨rfl, rfl, rfl, by simp [more], fun k hk => ?_⟩
  simp [more, Array.getElem?_append, hk]
theorem more_of_below {w w' : World} (h : Below w.heap.size w w') : ∃ x, w' = more w x := by
  refine ⟨⟨w'.heap.extract w.heap.size w'.heap.size, w'.drawn⟩, ?_⟩
  obtain ⟨h1, h2, h3, h4, h5⟩ := h
  cases w' with
  | mk heap tape drawn os output =>
    simp only at h1 h2 h3 h4 h5
    subst h1 h2 h3
    simp only [more]
    congr 1
    apply Array.ext_getElem?
    intro k
    by_cases hk : k < w.heap.size
    · rw [h5 k hk, Array.getElem?_append, if_pos hk]
    · rw [Array.getElem?_append, if_neg hk, Array.getElem?_extract]
      by_cases hk2 : k < heap.size
      · rw [if_pos (by omega)]; congr 1; omega
      · rw [if_neg (by omega)]; exact Array.getElem?_eq_none (by omega)
@[go_sem] theorem obj_more (n : Nat) (h : n < w.heap.size) : obj (more w x) n = obj w n := (more_below w x).block n h
theorem obj_below {B : Nat} {w w' : World} (h : Below B w w') {n : Nat} (hn : n < B) : obj w' n = obj w n := h.block n hn
theorem lt_of_obj {w : World} {g : Nat} {o : Obj} (h : obj w g = some o) : g < w.heap.size := by
  rcases Nat.lt_or_ge g w.heap.size with h' | h'
  · exact h'
  · unfold obj at h; rw [Array.getElem?_eq_none h'] at h; cases h
/-- a block stays behind a call that makes new ones alone -/
theorem keep {w w' : World} (hb : Below w.heap.size w w') {g : Nat} {o : Obj} (h : obj w g = some o) : obj w' g = some o := (obj_below hb (lt_of_obj h)).trans h
theorem keepA {w : World} (x : Obj) {g : Nat} {o : Obj} (h : obj w g = some o) : obj (w.alloc x) g = some o := (obj_alloc_past w x g (lt_of_obj h)).trans h
theorem newA (w : World) (x : Obj) : obj (w.alloc x) w.heap.size = some x := obj_alloc_at w x _ rfl
theorem size_more : w.heap.size ≤ (more w x).heap.size := by simp [more]
theorem more_more (y : Extra) : more (more w x) y = more w ⟨x.objs ++ y.objs, y.count⟩ := by simp [more, Array.append_assoc]
theorem more_self : w = more w ⟨#[], w.drawn⟩ := by simp [more]
theorem more_drew : w.drew = more w ⟨#[], w.drawn + 1⟩ := by unfold more World.drew; simp only [Array.append_empty]
end

section
variable {P : Program} {ops : Array Oper}
/-- **A REGION THAT DRAWS, WHOSE OPERATIONS READ OLD BLOCKS AND WHOSE CALLEES MAKE NEW ONES ALONE: ONE WALK IN THE ORDER OF THE TEXT.** -/
theorem wp_region_more {id : Nat} {Q : Exit → Act → World → Prop} {a : Act} {w : World} {l : List Oper} (hm : P.follows .mixedOrders = true) (hB : Region.lexB .any l.toArray = true)
    (h : wpQuiet P l.toArray (fun w' => ∃ x, w' = more w x) (fun a' => ∀ w', (∃ x, w' = more w x) → Q .normal a' w') l a) : (Code.region id l.toArray true).wp P Q a w :=
  wp_region_quiet (C := fun w' => ∃ x, w' = more w x) hm hB ⟨_, more_drew w⟩ (by simpa using h)
/-- a callee's contract, met in a world with more -/
theorem more_call {f : FuncId} {args : Array Value} {w : World} {x : Extra} {v : Value}
    (h : Calls P f args (more w x) fun e w' => e = .returned v ∧ Below (more w x).heap.size (more w x) w') : Calls P f args (more w x) fun e w'' => e = .returned v ∧ ∃ y, w'' = more w y :=
  h.mono fun _ _ ⟨he, hb⟩ => by
    obtain ⟨y, rfl⟩ := more_of_below hb
    exact ⟨he, _, more_more w x y⟩
end
@[go_sem] theorem agg8_fold (a b c d e f g h : Int) : Value.agg #[.int .u64 a, .int .u64 b, .int .u64 c, .int .u64 d, .int .u64 e, .int .u64 f, .int .u64 g, .int .u64 h] = .agg (cs [a, b, c, d, e, f, g, h]) := rfl
@[go_sem] theorem cs_ne (a : Int) (l : List Int) : (cs (a :: l) = #[]) = False := by simp [cs]
theorem wd_get (l : List Int) (i : Nat) (h : i < l.length) : wd l i = l[i] := by simp [wd, h]
end Go.Proofs.YtphmfaddgpjndaaGreat

/- A law for regions that draw their order: an invariant that every operation keeps, whichever have run before it, holds at the end. -/
namespace Go.Proofs.YtphmfaddgpjndaaGreat

/-- one more operation has run -/
def also (d : Nat → Bool) (i : Nat) : Nat → Bool := fun j => if j = i then true else d j
/-- the operations that must run ahead of one -/
def ahead (o : Oper) : List Nat := (o.after.toList.filter (Region.binds .any)).map (·.on)
/-- each operation waits for earlier ones alone -/
def ordered (ops : Array Oper) : Bool := (List.range ops.size).all fun i => ((ops[i]?).map fun o => (ahead o).all (· < i)).getD true

section
variable {P : Program} {Q : Exit → Act → World → Prop}

/-- one operation keeps the invariant -/
def Keeps (P : Program) (ops : Array Oper) (Q : Exit → Act → World → Prop) (I : (Nat → Bool) → Act → World → Prop) (i : Nat) (o : Oper) : Prop :=
  ∀ (d : Nat → Bool) (a : Act) (w : World), d i = false → (∀ j ∈ ahead o, d j = true) → I d a w →
    ∀ K : Act → World → Prop, (∀ a w, I (also d i) a w → K a w) → if Region.wanted o (yielded ops a.tmps) = true then o.wp P a w K Q else K (a.put o.dst undef) w
/-- all of a list do -/
def KeepsAll (P : Program) (ops : Array Oper) (Q : Exit → Act → World → Prop) (I : (Nat → Bool) → Act → World → Prop) : Nat → List Oper → Prop
  | _, [] => True
  | i, o :: l => Keeps P ops Q I i o ∧ KeepsAll P ops Q I (i + 1) l
theorem KeepsAll.at {ops : Array Oper} {I : (Nat → Bool) → Act → World → Prop} : ∀ {l : List Oper} {k : Nat}, KeepsAll P ops Q I k l → ∀ {i : Nat} {o : Oper}, l[i]? = some o → Keeps P ops Q I (k + i) o
  | [], _, _, i, o, h => by simp at h
  | x :: l, k, hk, 0, o, h => by simp at h; subst h; exact hk.1
  | x :: l, k, hk, i + 1, o, h => by
    have := KeepsAll.at hk.2 (i := i) (o := o) (by simpa using h)
    rw [show k + (i + 1) = k + 1 + i from by omega]
    exact this

/-- which have run -/
def ran (listed : Array Bool) (j : Nat) : Bool := listed.getD j true
theorem ran_set {listed : Array Bool} {i : Nat} (hi : i < listed.size) : ran (listed.setIfInBounds i true) = also (ran listed) i := by
  funext j
  unfold ran also
  by_cases h : j = i
  · subst h; simp [Array.getD, hi]
  · simp only [if_neg h, Array.getD, Array.size_setIfInBounds]
    split
    · exact Array.getElem_setIfInBounds_ne _ (Ne.symm h)
    · rfl

theorem mem_ready {ops : Array Oper} {listed : Array Bool} {i : Nat} : i ∈ Region.ready .any ops listed ↔ ∃ o, ops[i]? = some o ∧ ran listed i = false ∧ ∀ j ∈ ahead o, listed.getD j false = true := by
  unfold Region.ready ran ahead
  simp only [List.mem_filter, List.mem_range, Bool.and_eq_true, Bool.not_eq_true']
  constructor
  · rintro ⟨h1, h2, h3⟩
    refine ⟨ops[i], Array.getElem?_eq_getElem h1, h2, ?_⟩
    rw [Array.getElem?_eq_getElem h1] at h3
    simp only [Option.map_some, Option.getD_some, Array.all_eq_true'] at h3
    intro j hj
    simp only [List.mem_map, List.mem_filter] at hj
    obtain ⟨e, ⟨he, hb⟩, rfl⟩ := hj
    have := h3 e (by simpa using he)
    simpa [hb] using this
  · rintro ⟨o, h1, h2, h3⟩
    obtain ⟨hi, rfl⟩ := Array.getElem?_eq_some_iff.1 h1
    refine ⟨hi, h2, ?_⟩
    rw [h1]
    simp only [Option.map_some, Option.getD_some, Array.all_eq_true']
    intro e he
    cases hb : Region.binds .any e
    · rfl
    · have := h3 e.on (by simp only [List.mem_map, List.mem_filter]; exact ⟨e, ⟨by simpa using he, hb⟩, rfl⟩)
      simpa using this

theorem getD_of_ran {listed : Array Bool} {j : Nat} (hj : j < listed.size) (h : ran listed j = true) : listed.getD j false = true := by
  unfold ran at h
  simp only [Array.getD, hj] at h ⊢
  exact h
theorem ran_of_getD {listed : Array Bool} {j : Nat} (h : listed.getD j false = true) : ran listed j = true := by
  unfold ran
  by_cases hj : j < listed.size
  · simp only [Array.getD, hj] at h ⊢; exact h
  · simp [Array.getD, hj]

/-- where none is ready all have run -/
theorem ran_all {ops : Array Oper} {listed : Array Bool} (ho : ordered ops = true) (hs : listed.size = ops.size) (hr : Region.ready .any ops listed = []) (i : Nat) : ran listed i = true := by
  induction i using Nat.strongRecOn with
  | ind i ih =>
    by_cases hi : i < ops.size
    · cases h : ran listed i with
      | true => rfl
      | false =>
        exfalso
        have hm : i ∈ Region.ready .any ops listed := mem_ready.2 ⟨ops[i], Array.getElem?_eq_getElem hi, h, fun j hj => by
          have h1 := (List.all_eq_true.1 ho) i (List.mem_range.2 hi)
          rw [Array.getElem?_eq_getElem hi] at h1
          simp only [Option.map_some, Option.getD_some, List.all_eq_true, decide_eq_true_eq] at h1
          have h2 := h1 j hj
          exact getD_of_ran (by omega) (ih j h2)⟩
        rw [hr] at hm
        cases hm
    · unfold ran; simp [Array.getD, hs, hi]

theorem wpAny_keeps {ops : Array Oper} {I : (Nat → Bool) → Act → World → Prop} (ho : ordered ops = true) (hk : KeepsAll P ops Q I 0 ops.toList) (hend : ∀ a w, I (fun _ => true) a w → Q .normal a w) :
    ∀ (fuel : Nat) (listed : Array Bool) (a : Act) (w : World), listed.size = ops.size → (listed.toList.filter (!·)).length ≤ fuel → I (ran listed) a w → wpAny P .any ops Q fuel listed a w := by
  have done : ∀ (listed : Array Bool) (a : Act) (w : World), listed.size = ops.size → Region.ready .any ops listed = [] → I (ran listed) a w → Q .normal a w := by
    intro listed a w hs hr hI
    refine hend a w ?_
    have : ran listed = fun _ => true := funext (ran_all ho hs hr)
    rw [this] at hI
    exact hI
  intro fuel
  induction fuel with
  | zero =>
    intro listed a w hs hc hI
    have hr : Region.ready .any ops listed = [] := by
      cases h : Region.ready .any ops listed with
      | nil => rfl
      | cons x xs =>
        exfalso
        have hm : x ∈ Region.ready .any ops listed := by rw [h]; simp
        obtain ⟨o, h1, h2, _⟩ := mem_ready.1 hm
        have hx : x < listed.size := by rw [hs]; exact (Array.getElem?_eq_some_iff.1 h1).1
        have : listed[x] ∈ listed.toList.filter (!·) := by
          simp only [List.mem_filter]
          refine ⟨by simp, ?_⟩
          unfold ran at h2
          simp only [Array.getD, hx] at h2
          simpa using h2
        have := List.length_pos_of_mem this
        omega
    exact ⟨hr, done listed a w hs hr hI⟩
  | succ fuel ih =>
    intro listed a w hs hc hI
    refine ⟨fun hr => done listed a w hs hr hI, fun i hi => ?_⟩
    obtain ⟨o, h1, h2, h3⟩ := mem_ready.1 hi
    have hil : i < listed.size := by rw [hs]; exact (Array.getElem?_eq_some_iff.1 h1).1
    have hstep := (KeepsAll.at hk (i := i) (o := o) (by simpa using h1)) (ran listed) a w (by simpa using h2) (fun j hj => ran_of_getD (h3 j hj)) hI
    refine wpOp_step h1 fun K' hK' => ?_
    refine hstep K' fun a' w' hI' => hK' a' w' (ih _ _ _ (by simp [hs]) ?_ (by rw [ran_set hil]; simpa using hI'))
    have hset : (listed.setIfInBounds i true).toList = listed.toList.set i true := by simp
    rw [hset]
    have hfl : listed.toList[i]? = some false := by
      unfold ran at h2
      simp only [Array.getD, hil] at h2
      rw [Array.getElem?_toList, Array.getElem?_eq_getElem hil]
      simpa using h2
    have key : ∀ (l : List Bool) (i : Nat), l[i]? = some false → ((l.set i true).filter (!·)).length + 1 = (l.filter (!·)).length := by
      intro l
      induction l with
      | nil => intro i h; simp at h
      | cons x l ihl =>
        intro i h
        cases i with
        | zero => simp at h; subst h; simp
        | succ i =>
          simp at h
          have := ihl i h
          cases x <;> simp <;> simpa using this
    have := key _ _ hfl
    omega

/-- A REGION THAT DRAWS ITS ORDER, by an invariant. -/
theorem wp_region_keeps {id : Nat} {ops : Array Oper} {a : Act} {w : World} (hm : P.follows .mixedOrders = true) (ho : ordered ops = true) (I : (Nat → Bool) → Act → World → Prop)
    (h0 : I (fun j => decide (ops.size ≤ j)) a w.drew) (hk : KeepsAll P ops Q I 0 ops.toList) (hend : ∀ a w, I (fun _ => true) a w → Q .normal a w) : (Code.region id ops true).wp P Q a w := by
  refine wp_region_any hm (wpAny_keeps ho hk hend _ _ _ _ (by simp) ?_ ?_)
  · simp
  · have : ran (Array.replicate ops.size false) = fun j => decide (ops.size ≤ j) := by
      funext j; unfold ran
      by_cases h : j < ops.size
      · simp [Array.getD, h]
      · simp [Array.getD, h]; omega
    rw [this]; exact h0

/-! ### frames by their slots -/
/-- a frame of n slots -/
def actOf (n : Nat) (T : Nat → Value) : Act := ⟨((List.range n).map T).toArray, []⟩
/-- one slot written -/
def upd (T : Nat → Value) (s : Nat) (v : Value) : Nat → Value := fun j => if j = s then v else T j
theorem actOf_getD (n : Nat) (T : Nat → Value) (s : Nat) (h : s < n) : (actOf n T).tmps.getD s undef = T s := by
  simp [actOf, Array.getD, h]
theorem actOf_eval (n : Nat) (T : Nat → Value) (s : Nat) (h : s < n) : (actOf n T).eval (.tmp s) = T s := actOf_getD n T s h
theorem actOf_put (n : Nat) (T : Nat → Value) (s : Nat) (v : Value) (h : s < n) : (actOf n T).put (some s) v = actOf n (upd T s v) := by
  show (⟨_, _⟩ : Act) = ⟨_, _⟩
  congr 1
  show ((List.range n).map T).toArray.setIfInBounds s v = _
  apply Array.ext_getElem?
  intro j
  by_cases hj : j < n
  · by_cases hs : j = s
    · subst hs; simp [upd, hj]
    · rw [Array.getElem?_setIfInBounds_ne (Ne.symm hs)]; simp [upd, hj, hs]
  · rw [Array.getElem?_eq_none (by simp; omega), Array.getElem?_eq_none (by simp; omega)]
theorem actOf_put_none (n : Nat) (T : Nat → Value) (v : Value) : (actOf n T).put none v = actOf n T := rfl
theorem actOf_defers (n : Nat) (T : Nat → Value) : (actOf n T).defers = [] := rfl
/-- one operation keeps an invariant on slots -/
theorem keeps_of {ops : Array Oper} {n i : Nat} {o : Oper} {F : (Nat → Bool) → (Nat → Value) → World → Prop}
    (h : ∀ (d : Nat → Bool) (T : Nat → Value) (w : World), d i = false → (∀ j ∈ ahead o, d j = true) → F d T w → ∀ K : Act → World → Prop, (∀ T w, F (also d i) T w → K (actOf n T) w) →
      if Region.wanted o (yielded ops (actOf n T).tmps) = true then o.wp P (actOf n T) w K Q else K ((actOf n T).put o.dst undef) w) :
    Keeps P ops Q (fun d a w => ∃ T, a = actOf n T ∧ F d T w) i o := by
  rintro d a w hd ha ⟨T, rfl, hF⟩ K hK
  exact h d T w hd ha hF K fun T w hF => hK _ _ ⟨T, rfl, hF⟩
/-- the same, of an operation without a guard -/
theorem keeps_of' {ops : Array Oper} {n i : Nat} {o : Oper} {F : (Nat → Bool) → (Nat → Value) → World → Prop} (hg : o.guard = none)
    (h : ∀ (d : Nat → Bool) (T : Nat → Value) (w : World), d i = false → (∀ j ∈ ahead o, d j = true) → F d T w → ∀ K : Act → World → Prop, (∀ T w, F (also d i) T w → K (actOf n T) w) → o.wp P (actOf n T) w K Q) :
    Keeps P ops Q (fun d a w => ∃ T, a = actOf n T ∧ F d T w) i o := by
  refine keeps_of fun d T w hd ha hF K hK => ?_
  have : Region.wanted o (yielded ops (actOf n T).tmps) = true := by simp [Region.wanted, hg]
  rw [if_pos this]
  exact h d T w hd ha hF K hK

/-- what slots hold once their operations have run: (operation, slot, value) -/
def Facts (L : List (Nat × Nat × Value)) (d : Nat → Bool) (T : Nat → Value) : Prop := ∀ x ∈ L, d x.1 = true → T x.2.1 = x.2.2
theorem Facts.step {L : List (Nat × Nat × Value)} {d : Nat → Bool} {T : Nat → Value} (hF : Facts L d T) (i s : Nat) (v : Value) (h : ∀ x ∈ L, if x.1 = i then x.2.1 = s ∧ x.2.2 = v else x.2.1 ≠ s) : Facts L (also d i) (upd T s v) := by
  intro x hx hd
  have h1 := h x hx
  unfold also at hd; unfold upd
  by_cases hi : x.1 = i
  · rw [if_pos hi] at h1; rw [if_pos h1.1, h1.2]
  · rw [if_neg hi] at h1 hd; rw [if_neg h1]; exact hF x hx hd
theorem Facts.start {L : List (Nat × Nat × Value)} {T : Nat → Value} {n : Nat} (h : ∀ x ∈ L, x.1 < n) : Facts L (fun j => decide (n ≤ j)) T := by
  intro x hx hd
  have := h x hx
  simp only [decide_eq_true_eq] at hd
  omega
theorem Facts.run {L : List (Nat × Nat × Value)} {d : Nat → Bool} {T : Nat → Value} (hF : Facts L d T) (i : Nat) (h : ∀ x ∈ L, x.1 ≠ i) : Facts L (also d i) T := by
  intro x hx hd
  unfold also at hd
  rw [if_neg (h x hx)] at hd
  exact hF x hx hd
/-- what has run once something else has: (later, earlier) -/
def Ord (L : List (Nat × Nat)) (d : Nat → Bool) : Prop := ∀ x ∈ L, d x.1 = true → d x.2 = true
theorem Ord.step {L : List (Nat × Nat)} {d : Nat → Bool} (hO : Ord L d) (i : Nat) (h : ∀ x ∈ L, x.1 = i → d x.2 = true) : Ord L (also d i) := by
  intro x hx hd
  unfold also at hd ⊢
  by_cases h2 : x.2 = i
  · rw [if_pos h2]
  · rw [if_neg h2]
    by_cases h1 : x.1 = i
    · exact h x hx h1
    · rw [if_neg h1] at hd; exact hO x hx hd
theorem Ord.start {L : List (Nat × Nat)} {n : Nat} (h : ∀ x ∈ L, x.1 < n) : Ord L (fun j => decide (n ≤ j)) := by
  intro x hx hd
  have := h x hx
  simp only [decide_eq_true_eq] at hd
  omega
theorem Ord.not {L : List (Nat × Nat)} {d : Nat → Bool} (hO : Ord L d) {x y : Nat} (h : (x, y) ∈ L) (hy : d y = false) : d x = false := by
  cases hx : d x with
  | false => rfl
  | true => have := hO (x, y) h hx; simp only at this; rw [hy] at this; cases this

theorem actOf_size (n : Nat) (T : Nat → Value) : (actOf n T).tmps.size = n := by simp [actOf]
theorem actOf_get (n : Nat) (T : Nat → Value) (s : Nat) (h : s < (actOf n T).tmps.size) : (actOf n T).tmps[s] = T s := by simp [actOf]
theorem actOf_get? (n : Nat) (T : Nat → Value) (s : Nat) (h : s < n) : (actOf n T).tmps[s]? = some (T s) := by simp [actOf, h]
attribute [go_sem] actOf_size actOf_get actOf_get? actOf_getD actOf_eval actOf_put actOf_put_none actOf_defers
theorem actOf_self (a : Act) (n : Nat) (hn : a.tmps.size = n) (hd : a.defers = []) : a = actOf n fun s => a.tmps.getD s undef := by
  obtain ⟨t, df⟩ := a
  simp only at hn hd
  subst hd
  show (⟨_, _⟩ : Act) = ⟨_, _⟩
  congr 1
  apply Array.ext_getElem?
  intro j
  by_cases hj : j < n
  · simp [hj, Array.getD, hn, Array.getElem?_eq_getElem (hn ▸ hj : j < t.size)]
  · rw [Array.getElem?_eq_none (by omega), Array.getElem?_eq_none (by simp; omega)]
/-- A REGION THAT DRAWS ITS ORDER, by an invariant on the slots and the world. -/
theorem wp_region_slots {id : Nat} {ops : Array Oper} {a : Act} {w : World} (n : Nat) (F : (Nat → Value) → (Nat → Bool) → (Nat → Value) → World → Prop) (hm : P.follows .mixedOrders = true) (ho : ordered ops = true)
    (hn : a.tmps.size = n) (hd : a.defers = []) (h0 : F (fun s => a.tmps.getD s undef) (fun j => decide (ops.size ≤ j)) (fun s => a.tmps.getD s undef) w.drew)
    (hk : ∀ T0, KeepsAll P ops Q (fun d a w => ∃ T, a = actOf n T ∧ F T0 d T w) 0 ops.toList)
    (hend : ∀ T w', F (fun s => a.tmps.getD s undef) (fun _ => true) T w' → Q .normal (actOf n T) w') : (Code.region id ops true).wp P Q a w :=
  wp_region_keeps hm ho (fun d a' w' => ∃ T, a' = actOf n T ∧ F (fun s => a.tmps.getD s undef) d T w') ⟨_, actOf_self a n hn hd, h0⟩ (hk _) (by rintro _ w' ⟨T, rfl, hF⟩; exact hend T w' hF)
end
end Go.Proofs.YtphmfaddgpjndaaGreat

/- Worlds in which the blocks of a list alone are other; lines of words; the memory in its two blocks. -/
namespace Go.Proofs.YtphmfaddgpjndaaGreat
open Go.ChangeShapes Go.WideShapes Go.RowKit

/-! ### blocks that are kept -/
/-- of the blocks that there are, those of a list alone may be other -/
structure Kept (L : List Nat) (w w' : World) : Prop where
  os : w'.os = w.os
  tape : w'.tape = w.tape
  output : w'.output = w.output
  size : w.heap.size ≤ w'.heap.size
  block : ∀ n, n < w.heap.size → n ∉ L → obj w' n = obj w n
section
variable {L L' : List Nat} {w w' w0 : World}
theorem Kept.refl (L : List Nat) (w : World) : Kept L w w := ⟨rfl, rfl, rfl, Nat.le_refl _, fun _ _ _ => rfl⟩
theorem Kept.next (h : Kept L w0 w) (k : Kept L' w w') (hL : ∀ n ∈ L', n ∈ L ∨ w0.heap.size ≤ n) : Kept L w0 w' :=
  ⟨k.os.trans h.os, k.tape.trans h.tape, k.output.trans h.output, Nat.le_trans h.size k.size, fun n hn hL1 =>
    (k.block n (Nat.lt_of_lt_of_le hn h.size) (fun h2 => (hL n h2).elim hL1 (fun h3 => by omega))).trans (h.block n hn hL1)⟩
theorem Kept.trans (h : Kept L w0 w) (k : Kept L w w') : Kept L w0 w' := h.next k fun _ h => Or.inl h
theorem Kept.mono (h : Kept L w w') (hs : ∀ n ∈ L, n ∈ L') : Kept L' w w' := ⟨h.os, h.tape, h.output, h.size, fun n hn h2 => h.block n hn fun h3 => h2 (hs n h3)⟩
theorem Kept.of_below (h : Below w.heap.size w w') : Kept L w w' := ⟨h.os, h.tape, h.output, h.size, fun n hn _ => h.block n hn⟩
theorem Kept.below {B : Nat} (h : Kept L w w') (hB : B ≤ w.heap.size) (hL : ∀ n ∈ L, B ≤ n) : Below B w w' :=
  ⟨h.os, h.tape, h.output, h.size, fun n hn => h.block n (by omega) fun h2 => by have := hL n h2; omega⟩
theorem Kept.keep (h : Kept L w w') {g : Nat} {o : Obj} (hg : obj w g = some o) (hn : g ∉ L) : obj w' g = some o := (h.block g (lt_of_obj hg) hn).trans hg
theorem Kept.same (h : Kept L w w') {g : Nat} {o : Obj} (hg : obj w g = some o) (hn : g ∉ L) : obj w' g = obj w g := h.block g (lt_of_obj hg) hn
theorem Kept.then_below (h : Kept L w0 w) (k : Below w.heap.size w w') : Kept L w0 w' := h.next (Kept.of_below (L := []) k) fun _ h => by cases h
theorem Kept.alloc (h : Kept L w0 w) (o : Obj) : Kept L w0 (w.alloc o) := h.then_below ((Below.refl _ _).alloc (Nat.le_refl _) _)
theorem Kept.drawn (h : Kept L w0 w) (k : Nat) : Kept L w0 (w.drewN k) := ⟨h.os, h.tape, h.output, h.size, h.block⟩
theorem Kept.drew (h : Kept L w0 w) : Kept L w0 w.drew := ⟨h.os, h.tape, h.output, h.size, h.block⟩
theorem Kept.setCell (h : Kept L w0 w) {p : Addr} (v : Value) (hp : p.block ∈ L ∨ w0.heap.size ≤ p.block) : Kept L w0 (w.setCell p v) :=
  h.next (L' := [p.block]) ⟨rfl, rfl, rfl, by simp, fun n _ h2 => obj_setCell_ne w p v n (by simpa using h2)⟩ fun n hn => by
    have : n = p.block := by simpa using hn
    subst this; exact hp
theorem Kept.setRow (h : Kept L w0 w) {g : Nat} (c : Array Value) (hp : g ∈ L ∨ w0.heap.size ≤ g) : Kept L w0 (w.setRow g c) :=
  h.next (L' := [g]) ⟨rfl, rfl, rfl, by simp [size_setRow], fun n _ h2 => obj_setRow_ne w g c n (by simpa using h2)⟩ fun n hn => by
    have : n = g := by simpa using hn
    subst this; exact hp
theorem Kept.more (h : Kept L w0 w) (x : Extra) : Kept L w0 (more w x) := h.then_below (more_below w x)
theorem below_kept (h : Below w.heap.size w w') : Kept [] w w' := Kept.of_below h
theorem kept_below (h : Kept [] w w') : Below w.heap.size w w' := h.below (Nat.le_refl _) fun _ h => by cases h
theorem lt_of_cell {g i : Nat} {v : Value} (h : cellAt (obj w g) i = some v) : g < w.heap.size := by
  cases ho : obj w g with
  | none => rw [ho] at h; simp [cellAt] at h
  | some o => exact lt_of_obj ho
theorem Kept.cell (h : Kept L w w') {g i : Nat} {v : Value} (hg : cellAt (obj w g) i = some v) (hn : g ∉ L) : cellAt (obj w' g) i = some v := by
  rw [h.block g (lt_of_cell hg) hn]; exact hg
end

/-! ### cells replaced -/
theorem nth_set {c : Array Value} {p : Nat} {a : Value} (h : p < c.size) (i : Nat) : nth (c.setIfInBounds p a) i = if i = p then some a else nth c i := by
  unfold nth
  by_cases e : i = p
  · subst e; rw [if_pos rfl, Array.getElem?_setIfInBounds_self_of_lt h]
  · rw [if_neg e, Array.getElem?_setIfInBounds_ne (Ne.symm e)]
theorem size_splice (c : Array Value) (off : Nat) (vs : Array Value) (h : off + vs.size ≤ c.size) : (splice c off vs).size = c.size := by
  unfold splice; simp; omega
theorem nth_splice (c : Array Value) (off : Nat) (vs : Array Value) (h : off + vs.size ≤ c.size) (i : Nat) : nth (splice c off vs) i = if off ≤ i ∧ i < off + vs.size then nth vs (i - off) else nth c i := by
  unfold nth splice
  rw [List.getElem?_toArray]
  by_cases h1 : i < off
  · rw [if_neg (by omega), List.append_assoc, List.getElem?_append_left (by simp; omega), List.getElem?_take, if_pos h1, Array.getElem?_toList]
  · by_cases h2 : i < off + vs.size
    · rw [if_pos (by omega), List.append_assoc, List.getElem?_append_right (by simp; omega), List.getElem?_append_left (by simp; omega), Array.getElem?_toList]
      congr 1; simp; omega
    · rw [if_neg (by omega), List.getElem?_append_right (by simp; omega), List.getElem?_drop, Array.getElem?_toList]
      congr 1; simp; omega
theorem setRow_below {B : Nat} {w w' : World} (h : Below B w w') {g : Nat} (hg : B ≤ g) (c : Array Value) : Below B w (w'.setRow g c) :=
  h.trans ⟨rfl, rfl, rfl, by simp [size_setRow], fun k hk => setRow_other w' g k c (by omega)⟩
theorem nth_lt {c : Array Value} {i : Nat} {v : Value} (h : nth c i = some v) : i < c.size := (Array.getElem?_eq_some_iff.1 h).1
/-- a row of words in a block -/
def WordsAt (c : Array Value) (off : Nat) (l : List Int) : Prop := ∀ t, t < l.length → nth c (off + t) = some (.int .u64 (wd l t))
theorem WordsAt.row {c : Array Value} {off : Nat} {l : List Int} (h : WordsAt c off l) (h0 : 0 < l.length) : c.extract off (off + l.length) = cs l ∧ off + l.length ≤ c.size := by
  have hl : off + l.length ≤ c.size := by have := nth_lt (h (l.length - 1) (by omega)); omega
  refine ⟨?_, hl⟩
  apply Array.ext_getElem?
  intro i
  by_cases hi : i < l.length
  · have e1 := cs_get l i hi
    unfold nth at e1
    rw [e1, ← h i hi]
    unfold nth
    rw [Array.getElem?_extract, if_pos (by omega)]
  · rw [Array.getElem?_eq_none (by simp; omega), Array.getElem?_eq_none (by rw [cs_size]; omega)]
theorem WordsAt.rowAt {w : World} {g off n : Nat} {c : Array Value} {t : TypeId} {l : List Int} (hg : obj w g = some (.cells c t (0, 0))) (h : WordsAt c off l) (hn : n = l.length) (h0 : 0 < l.length) : rowAt (obj w g) off n = some (cs l) := by
  subst hn
  rw [hg, rowAt_some _ _ _ _ _ (h.row h0).2, (h.row h0).1]

/-! ### the memory -/
/-- what a memory is -/
structure MS where
  n : Nat
  line : Nat → List Int
  wear : Nat → Int
  reg : Nat → Int
  writes : Int
  cut : Int
  mask : Int
  down : Bool
/-- the lines, ten cells to each -/
def LinesIn (w : World) (Cb n : Nat) (line : Nat → List Int) (wear : Nat → Int) : Prop :=
  ∃ c : Array Value, obj w Cb = some (.cells c 103 (0, 0)) ∧ c.size = 10 * n ∧ ∀ j, j < n → (line j).length = 8 ∧ WordsAt c (10 * j) (line j) ∧ nth c (10 * j + 8) = some (.int .i64 (wear j)) ∧ nth c (10 * j + 9) = some (.int .i64 (-1))
/-- a memory's own cells -/
def OwnIn (w : World) (Mb Cb : Nat) (m : MS) : Prop :=
  ∃ c : Array Value, obj w Mb = some (.cells c 101 (0, 0)) ∧ c.size = 40 ∧ nth c 0 = some (.slice (some ⟨Cb, 0, none⟩) m.n m.n) ∧ (∀ i, i < 35 → nth c (1 + i) = some (.int .u64 (m.reg i))) ∧
    nth c 36 = some (.int .i64 m.writes) ∧ nth c 37 = some (.int .i64 m.cut) ∧ nth c 38 = some (.int .i64 m.mask) ∧ nth c 39 = some (.bool m.down)
/-- a memory lies in the blocks Mb and Cb -/
structure MemAt (w : World) (Mb Cb : Nat) (m : MS) : Prop where
  hM : OwnIn w Mb Cb m
  hL : LinesIn w Cb m.n m.line m.wear
  ne : Mb ≠ Cb
section
variable {w w' : World} {Mb Cb : Nat} {m : MS}
theorem LinesIn.same {n : Nat} {line : Nat → List Int} {wear : Nat → Int} (h : LinesIn w Cb n line wear) (e : obj w' Cb = obj w Cb) : LinesIn w' Cb n line wear := by
  obtain ⟨c, h1, h2⟩ := h
  exact ⟨c, e.trans h1, h2⟩
theorem OwnIn.same (h : OwnIn w Mb Cb m) (e : obj w' Mb = obj w Mb) : OwnIn w' Mb Cb m := by
  obtain ⟨c, h1, h2⟩ := h
  exact ⟨c, e.trans h1, h2⟩
theorem OwnIn.lt (h : OwnIn w Mb Cb m) : Mb < w.heap.size := by obtain ⟨c, h1, _⟩ := h; exact lt_of_obj h1
theorem LinesIn.lt {n : Nat} {line : Nat → List Int} {wear : Nat → Int} (h : LinesIn w Cb n line wear) : Cb < w.heap.size := by obtain ⟨c, h1, _⟩ := h; exact lt_of_obj h1
theorem MemAt.kept {L : List Nat} (h : MemAt w Mb Cb m) (k : Kept L w w') (h1 : Mb ∉ L) (h2 : Cb ∉ L) : MemAt w' Mb Cb m :=
  ⟨h.hM.same (k.block _ h.hM.lt h1), h.hL.same (k.block _ h.hL.lt h2), h.ne⟩
theorem MemAt.below (h : MemAt w Mb Cb m) (k : Below w.heap.size w w') : MemAt w' Mb Cb m := h.kept (below_kept k) (by simp) (by simp)
theorem MemAt.alloc (h : MemAt w Mb Cb m) (o : Obj) : MemAt (w.alloc o) Mb Cb m := h.below ((Below.refl _ _).alloc (Nat.le_refl _) _)
theorem MemAt.drawn (h : MemAt w Mb Cb m) (k : Nat) : MemAt (w.drewN k) Mb Cb m := ⟨h.hM, h.hL, h.ne⟩
theorem MemAt.c0 (h : MemAt w Mb Cb m) : cellAt (obj w Mb) 0 = some (.slice (some ⟨Cb, 0, none⟩) m.n m.n) := by obtain ⟨c, h1, h2⟩ := h.hM; rw [h1]; exact h2.2.1
theorem MemAt.creg (h : MemAt w Mb Cb m) (i : Nat) (hi : i < 35) : cellAt (obj w Mb) (1 + i) = some (.int .u64 (m.reg i)) := by obtain ⟨c, h1, h2⟩ := h.hM; rw [h1]; exact h2.2.2.1 i hi
theorem MemAt.c36 (h : MemAt w Mb Cb m) : cellAt (obj w Mb) 36 = some (.int .i64 m.writes) := by obtain ⟨c, h1, h2⟩ := h.hM; rw [h1]; exact h2.2.2.2.1
theorem MemAt.c37 (h : MemAt w Mb Cb m) : cellAt (obj w Mb) 37 = some (.int .i64 m.cut) := by obtain ⟨c, h1, h2⟩ := h.hM; rw [h1]; exact h2.2.2.2.2.1
theorem MemAt.c38 (h : MemAt w Mb Cb m) : cellAt (obj w Mb) 38 = some (.int .i64 m.mask) := by obtain ⟨c, h1, h2⟩ := h.hM; rw [h1]; exact h2.2.2.2.2.2.1
theorem MemAt.c39 (h : MemAt w Mb Cb m) : cellAt (obj w Mb) 39 = some (.bool m.down) := by obtain ⟨c, h1, h2⟩ := h.hM; rw [h1]; exact h2.2.2.2.2.2.2
theorem MemAt.ice (h : MemAt w Mb Cb m) (i : Nat) : iceAt (obj w Mb) i = false := by obtain ⟨c, h1, _⟩ := h.hM; rw [h1]; exact iceAt_some ..
theorem MemAt.iceC (h : MemAt w Mb Cb m) (i : Nat) : iceAt (obj w Cb) i = false := by obtain ⟨c, h1, _⟩ := h.hL; rw [h1]; exact iceAt_some ..
theorem MemAt.unb (h : MemAt w Mb Cb m) : unbarred (obj w Cb) = true := by obtain ⟨c, h1, _⟩ := h.hL; rw [h1]; rfl
theorem MemAt.len (h : MemAt w Mb Cb m) (j : Nat) (hj : j < m.n) : (m.line j).length = 8 := by obtain ⟨c, _, _, h2⟩ := h.hL; exact (h2 j hj).1
theorem MemAt.row (h : MemAt w Mb Cb m) (j : Nat) (hj : j < m.n) : rowAt (obj w Cb) (10 * j) 8 = some (cs (m.line j)) := by
  obtain ⟨c, h1, _, h2⟩ := h.hL
  exact WordsAt.rowAt h1 (h2 j hj).2.1 (h2 j hj).1.symm (by rw [(h2 j hj).1]; decide)
theorem MemAt.c8 (h : MemAt w Mb Cb m) (j : Nat) (hj : j < m.n) : cellAt (obj w Cb) (10 * j + 8) = some (.int .i64 (m.wear j)) := by obtain ⟨c, h1, _, h2⟩ := h.hL; rw [h1]; exact (h2 j hj).2.2.1
theorem MemAt.c9 (h : MemAt w Mb Cb m) (j : Nat) (hj : j < m.n) : cellAt (obj w Cb) (10 * j + 9) = some (.int .i64 (-1)) := by obtain ⟨c, h1, _, h2⟩ := h.hL; rw [h1]; exact (h2 j hj).2.2.2
/-- the memory's own cells but for one -/
theorem OwnIn.set (h : OwnIn w Mb Cb m) (i : Nat) (v : Value) (m' : MS) (hn : m'.n = m.n) (h0 : i ≠ 0) (hi : i < 40)
    (hr : ∀ j, j < 35 → if 1 + j = i then v = .int .u64 (m'.reg j) else m'.reg j = m.reg j) (h36 : if 36 = i then v = .int .i64 m'.writes else m'.writes = m.writes)
    (h37 : if 37 = i then v = .int .i64 m'.cut else m'.cut = m.cut) (h38 : if 38 = i then v = .int .i64 m'.mask else m'.mask = m.mask) (h39 : if 39 = i then v = .bool m'.down else m'.down = m.down) : OwnIn (w.setCell ⟨Mb, i, none⟩ v) Mb Cb m' := by
  obtain ⟨c, h1, h2, k0, kr, k36, k37, k38, k39⟩ := h
  refine ⟨c.setIfInBounds i v, by rw [obj_setCell_eq, h1]; rfl, by simpa using h2, ?_, fun j hj => ?_, ?_, ?_, ?_, ?_⟩
  · rw [nth_set (by omega), if_neg (Ne.symm h0), hn]; exact k0
  · have := hr j hj
    rw [nth_set (by omega)]
    by_cases e : 1 + j = i
    · rw [if_pos e] at this ⊢; rw [this]
    · rw [if_neg e] at this ⊢; rw [this]; exact kr j hj
  all_goals
    rw [nth_set (by omega)]
    split
    · rename_i e
      simp only [e, if_true] at h36 h37 h38 h39
      first | rw [h36] | rw [h37] | rw [h38] | rw [h39]
    · rename_i e
      first
      | (rw [if_neg e] at h36; rw [h36]; exact k36)
      | (rw [if_neg e] at h37; rw [h37]; exact k37)
      | (rw [if_neg e] at h38; rw [h38]; exact k38)
      | (rw [if_neg e] at h39; rw [h39]; exact k39)
end
end Go.Proofs.YtphmfaddgpjndaaGreat

/- A law for regions that draw their order: operations that only read or whose callees make new blocks, in whatever order, ahead of a few that may do what they like. -/
namespace Go.Proofs.YtphmfaddgpjndaaGreat

/-- the first k of m have come up -/
def marked (m : Nat) : Nat → Array Bool
  | 0 => Array.replicate m false
  | k + 1 => (marked m k).setIfInBounds k true
/-- does operation j wait for i? -/
def awaits (ops : Array Oper) (j i : Nat) : Bool := ((ops[j]?).map fun o => o.after.any fun e => Region.binds .any e && e.on == i).getD false
/-- the order of the text is one of the head's orders, and each is free -/
def headB (ops : Array Oper) : Nat → Nat → Array Bool → Bool
  | 0, _, _ => true
  | f + 1, k, listed => (Region.ready .any ops listed).contains k && Region.free .any ops listed k && headB ops f (k + 1) (listed.setIfInBounds k true)
/-- the tail waits for all of the head -/
def partB (ops : Array Oper) (n : Nat) : Bool :=
  Region.noSelect ops && decide (n < ops.size) && ((List.range n).all fun i => (List.range (n + 1)).any fun j => decide (i < j) && awaits ops j i) &&
  ((List.range ops.size).all fun t => decide (t ≤ n) || (List.range t).any fun j => decide (n ≤ j) && awaits ops t j) && headB ops n 0 (Array.replicate ops.size false)

section
variable {P : Program} {ops : Array Oper} {C : World → Prop} {n : Nat}
theorem awaits_spec {j i : Nat} (h : awaits ops j i = true) : ∃ o, ops[j]? = some o ∧ ∃ e ∈ o.after, Region.binds .any e = true ∧ e.on = i := by
  unfold awaits at h
  cases ho : ops[j]? with
  | none => rw [ho] at h; cases h
  | some o =>
    rw [ho] at h
    obtain ⟨e, he, hb⟩ := Array.any_eq_true'.1 h
    simp only [Bool.and_eq_true, beq_iff_eq] at hb
    exact ⟨o, rfl, e, he, hb.1, hb.2⟩
/-- what holds while the head comes up -/
structure HeadOf (ops : Array Oper) (n : Nat) (listed : Array Bool) : Prop where
  size : listed.size = ops.size
  closed : ∀ j o, ops[j]? = some o → listed.getD j false = true → ∀ e ∈ o.after, Region.binds .any e = true → listed.getD e.on false = true
  tail : ∀ t, n ≤ t → listed.getD t false = false
theorem pend_of {listed : Array Bool} {i : Nat} (hi : i < listed.size) : listed.getD i true = listed.getD i false := by simp [Array.getD, hi]
theorem HeadOf.start : HeadOf ops n (Array.replicate ops.size false) := by
  have h : ∀ j, (Array.replicate ops.size false).getD j false = false := fun j => by simp [Array.getD]
  exact ⟨by simp, fun j o _ hl => (by rw [h] at hl; cases hl), fun t _ => h t⟩
theorem HeadOf.step {listed : Array Bool} (hI : HeadOf ops n listed) {i : Nat} (hr : i ∈ Region.ready .any ops listed) (hin : i < n) : HeadOf ops n (listed.setIfInBounds i true) := by
  obtain ⟨_, o, ho, hall⟩ := Go.mem_ready.1 hr
  refine ⟨by simp [hI.size], fun j oj hj hl e he hb => ?_, fun t ht => by rw [getD_set_ne false (by omega)]; exact hI.tail t ht⟩
  by_cases hij : i = j
  · subst hij
    obtain rfl : o = oj := by rw [ho] at hj; simpa using hj
    exact getD_set_true (hall e he hb)
  · rw [getD_set_ne false hij] at hl
    exact getD_set_true (hI.closed j oj hj hl e he hb)
/-- while one of the head is pending none of the tail may come up -/
theorem tail_not {listed : Array Bool} (hs : ∀ i, i < n → ∃ j, i < j ∧ j ≤ n ∧ awaits ops j i = true) (ht : ∀ t, n < t → t < ops.size → ∃ j, n ≤ j ∧ j < t ∧ awaits ops t j = true) (hI : HeadOf ops n listed) :
    ∀ (d i : Nat), n - i = d → i < n → listed.getD i false = false → ∀ t, n ≤ t → t ∉ Region.ready .any ops listed := by
  have waits : ∀ t j, awaits ops t j = true → listed.getD j false = false → t ∉ Region.ready .any ops listed := by
    intro t j h hj hr
    obtain ⟨o, ho, e, he, hb, rfl⟩ := awaits_spec h
    obtain ⟨_, o2, ho2, hall⟩ := Go.mem_ready.1 hr
    obtain rfl : o = o2 := by rw [ho] at ho2; simpa using ho2
    rw [hall e he hb] at hj
    cases hj
  intro d
  induction d using Nat.strongRecOn with
  | ind d ih =>
    intro i hd hi hun t htn hr
    by_cases e : t = n
    · subst e
      obtain ⟨j, h1, h2, h3⟩ := hs i hi
      by_cases hj : j = t
      · subst hj; exact waits j i h3 hun hr
      · cases hl : listed.getD j false with
        | true =>
          obtain ⟨o, ho, e, he, hb, rfl⟩ := awaits_spec h3
          have := hI.closed j o ho hl e he hb
          rw [hun] at this; cases this
        | false => exact ih (t - j) (by omega) j rfl (by omega) hl t (Nat.le_refl _) hr
    · obtain ⟨_, o, ho, _⟩ := Go.mem_ready.1 hr
      obtain ⟨j, h1, _, h3⟩ := ht t (by omega) (Array.getElem?_eq_some_iff.1 ho).1
      exact waits t j h3 (hI.tail j h1) hr

/-- the head, in whatever order; then F -/
def Heads (P : Program) (ops : Array Oper) (C : World → Prop) (n : Nat) (F : Array Bool → Act → Prop) : Nat → Array Bool → Act → Prop
  | 0, listed, a => (∀ j, j < n → listed.getD j false = true) ∧ F listed a
  | f + 1, listed, a => Region.ready .any ops listed ≠ [] ∧ ∀ i ∈ Region.ready .any ops listed, ∃ o v, ops[i]? = some o ∧ YieldsIn P ops C o v a ∧ Heads P ops C n F f (listed.setIfInBounds i true) (a.put o.dst v)
theorem wpAny_of_heads {F : Array Bool → Act → Prop} {Q : Exit → Act → World → Prop} {g : Nat} (hF : ∀ listed a w, C w → F listed a → wpAny P .any ops Q g listed a w) :
    ∀ (f : Nat) (listed : Array Bool) (a : Act) (w : World), C w → Heads P ops C n F f listed a → wpAny P .any ops Q (f + g) listed a w
  | 0, listed, a, w, hw, h => by rw [Nat.zero_add]; exact hF _ _ _ hw h.2
  | f + 1, listed, a, w, hw, h => by
    rw [show f + 1 + g = (f + g) + 1 by omega]
    refine ⟨fun h0 => absurd h0 h.1, fun i hi => ?_⟩
    obtain ⟨o, v, ho, hy, hn⟩ := h.2 i hi
    exact wpOp_of_qOp hw (fun a' w' hw' hk => wpAny_of_heads hF f _ a' w' hw' hk) (hy.qOp (K := Heads P ops C n F f (listed.setIfInBounds i true)) ho hn)
/-- one that may come up, is free, and yields the same in each world may be taken first -/
theorem heads_first {F : Array Bool → Act → Prop} (hsel : Region.noSelect ops = true) (hs : ∀ i, i < n → ∃ j, i < j ∧ j ≤ n ∧ awaits ops j i = true) (ht : ∀ t, n < t → t < ops.size → ∃ j, n ≤ j ∧ j < t ∧ awaits ops t j = true) (hn : n < ops.size)
    {i : Nat} {o : Oper} {v : Value} (ho : ops[i]? = some o) (hin : i < n) : ∀ (f : Nat) (listed : Array Bool) (a : Act), HeadOf ops n listed →
      (∀ j oj, ops[j]? = some oj → j ≠ i → listed.getD j true = false → (∀ e ∈ oj.after, Region.binds .any e = true → e.on ≠ i) → o.apart ops oj = true) →
      i ∈ Region.ready .any ops listed → YieldsIn P ops C o v a → Heads P ops C n F f (listed.setIfInBounds i true) (a.put o.dst v) → Heads P ops C n F (f + 1) listed a := by
  intro f
  induction f with
  | zero =>
    intro listed a hI _ hr hy H
    have hun := (Go.mem_ready.1 hr).1
    rw [pend_of (by rw [hI.size]; omega)] at hun
    refine ⟨fun h => (by rw [h] at hr; cases hr), fun j hj => ?_⟩
    by_cases e : j = i
    · subst e; exact ⟨o, v, ho, hy, H⟩
    · exfalso
      by_cases hjn : j < n
      · have h1 := H.1 j hjn
        rw [getD_set_ne false (Ne.symm e)] at h1
        have h2 := (Go.mem_ready.1 hj).1
        rw [pend_of (by rw [hI.size]; omega), h1] at h2
        cases h2
      · exact tail_not hs ht hI _ i rfl hin hun j (by omega) hj
  | succ f ih =>
    intro listed a hI hfree hr hy H
    have hun := (Go.mem_ready.1 hr).1
    have hun2 := hun
    rw [pend_of (by rw [hI.size]; omega)] at hun2
    refine ⟨fun h => (by rw [h] at hr; cases hr), fun j hj => ?_⟩
    by_cases e : j = i
    · subst e; exact ⟨o, v, ho, hy, H⟩
    · have hjn : j < n := by
        rcases Nat.lt_or_ge j n with h | h
        · exact h
        · exact absurd hj (tail_not hs ht hI _ i rfl hin hun2 j h)
      obtain ⟨oj, vj, hoj, hyj, Hj⟩ := H.2 j (ready_mono hj e)
      obtain ⟨hjun, oj2, hoj2, hall⟩ := Go.mem_ready.1 hj
      obtain rfl : oj = oj2 := by rw [hoj] at hoj2; simpa using hoj2
      have hno : ∀ e ∈ oj.after, Region.binds .any e = true → e.on ≠ i := fun e he hb h => by
        have h1 := hall e he hb
        rw [h, hun2] at h1; cases h1
      have hap := hfree j oj hoj e hjun hno
      obtain ⟨p1, p2, p3⟩ := Oper.apart_spec hap
      refine ⟨oj, vj, hoj, ?_, ?_⟩
      · exact hyj.of_same (execOp_put oj (fun cs b => Region.noSelect_spec hsel j oj cs b hoj) a o.dst v p1).symm (wanted_put oj a o.dst v p1).symm
      · refine ih (listed.setIfInBounds j true) (a.put oj.dst vj) (hI.step hj hjn) (fun k ok hk hki hkun hkno => ?_) (ready_mono hr (Ne.symm e)) ?_ ?_
        · refine hfree k ok hk hki ?_ hkno
          by_cases ejk : j = k
          · subst ejk; exact hjun
          · rw [getD_set_ne true ejk] at hkun; exact hkun
        · exact hy.of_same (execOp_put o (fun cs b => Region.noSelect_spec hsel i o cs b ho) a oj.dst vj p3) (wanted_put o a oj.dst vj p3)
        · rw [Array.setIfInBounds_comm _ _ e, ← Act.put_comm a v vj p2]
          exact Hj
/-- by the walk in the text's order -/
theorem heads_lex {F : Array Bool → Act → Prop} (hsel : Region.noSelect ops = true) (hs : ∀ i, i < n → ∃ j, i < j ∧ j ≤ n ∧ awaits ops j i = true) (ht : ∀ t, n < t → t < ops.size → ∃ j, n ≤ j ∧ j < t ∧ awaits ops t j = true) (hn : n < ops.size) :
    ∀ (l : List Oper) (k : Nat) (a : Act), (∀ j, j < l.length → l[j]? = ops[k + j]?) → k + l.length = n → HeadOf ops n (marked ops.size k) → (∀ j, j < k → (marked ops.size k).getD j false = true) → headB ops l.length k (marked ops.size k) = true →
      wpQuiet P ops C (fun a' => F (marked ops.size n) a') l a → Heads P ops C n F l.length (marked ops.size k) a
  | [], k, a, _, hk, _, hall, _, h => by
    obtain rfl : k = n := by simpa using hk
    exact ⟨hall, h⟩
  | o :: l, k, a, hl, hk, hI, hall, hB, h => by
    have h0 : ops[k]? = some o := by simpa using (hl 0 (by simp)).symm
    simp only [List.length_cons, headB, Bool.and_eq_true] at hB
    obtain ⟨⟨hr, hf⟩, hB'⟩ := hB
    have hkn : k < n := by simp only [List.length_cons] at hk; omega
    have hr' : k ∈ Region.ready .any ops (marked ops.size k) := by simpa using hr
    have hq : qOp P ops C k (wpQuiet P ops C (fun a' => F (marked ops.size n) a') l) a := by unfold qOp; simp only [h0]; exact h
    obtain ⟨v, hy, hK⟩ := yieldsIn_of_qOp h0 hq
    have hkl : k < (marked ops.size k).size := by rw [hI.size]; omega
    refine heads_first hsel hs ht hn h0 hkn l.length _ a hI (Region.free_spec h0 hf) hr' hy ?_
    refine heads_lex hsel hs ht hn l (k + 1) _ (fun j hj => by have := hl (j + 1) (by simp; omega); simpa [Nat.add_assoc, Nat.add_comm 1 j] using this) (by simp only [List.length_cons] at hk; omega) (hI.step hr' hkn) (fun j hj => ?_) hB' hK
    by_cases e : k = j
    · subst e; show ((marked ops.size k).setIfInBounds k true).getD k false = true; simp [Array.getD, hkl]
    · show ((marked ops.size k).setIfInBounds k true).getD j false = true
      rw [getD_set_ne false e]; exact hall j (by omega)

/-- **READS AND CALLS THAT MAKE NEW BLOCKS ALONE, IN WHATEVER ORDER, AHEAD OF A TAIL.** -/
theorem wp_region_more_any {id : Nat} {Q : Exit → Act → World → Prop} {a : Act} {w : World} {l : List Oper} (n : Nat) (hm : P.follows .mixedOrders = true) (hB : partB l.toArray n = true)
    (h : wpQuiet P l.toArray (fun w' => ∃ x, w' = more w x) (fun a' => ∀ w', (∃ x, w' = more w x) → wpAny P .any l.toArray Q (l.length - n) (marked l.toArray.size n) a' w') (l.take n) a) : (Code.region id l.toArray true).wp P Q a w := by
  simp only [partB, Bool.and_eq_true, decide_eq_true_eq, List.all_eq_true, List.any_eq_true, List.mem_range, Bool.or_eq_true] at hB
  obtain ⟨⟨⟨⟨hsel, hn⟩, hs⟩, ht⟩, hlex⟩ := hB
  have hn' : n < l.length := by simpa using hn
  have hs' : ∀ i, i < n → ∃ j, i < j ∧ j ≤ n ∧ awaits l.toArray j i = true := fun i hi => by
    obtain ⟨j, h1, h2, h3⟩ := hs i hi; exact ⟨j, h2, by omega, h3⟩
  have ht' : ∀ t, n < t → t < l.toArray.size → ∃ j, n ≤ j ∧ j < t ∧ awaits l.toArray t j = true := fun t h1 h2 => by
    rcases ht t h2 with h3 | ⟨j, h3, h4, h5⟩
    · omega
    · exact ⟨j, h4, h3, h5⟩
  have htl : (l.take n).length = n := by simp; omega
  have H := heads_lex (P := P) (ops := l.toArray) (C := fun w' => ∃ x, w' = more w x) (n := n) (F := fun listed a' => ∀ w', (∃ x, w' = more w x) → wpAny P .any l.toArray Q (l.length - n) listed a' w') hsel hs' ht' hn (l.take n) 0 a
    (fun j hj => by rw [htl] at hj; simp [hj]) (by simpa using htl) HeadOf.start (fun j hj => by omega) (by rw [htl]; exact hlex) h
  refine wp_region_any hm ?_
  have H2 := wpAny_of_heads (Q := Q) (g := l.length - n) (fun listed a' w' hw' hF => hF w' hw') _ _ _ _ (⟨_, more_drew w⟩ : ∃ x, w.drew = more w x) H
  rw [htl, show n + (l.length - n) = l.toArray.size by simp; omega] at H2
  exact H2
/-- the same where the tail has one order -/
theorem wp_region_more_tail {id : Nat} {Q : Exit → Act → World → Prop} {a : Act} {w : World} {l : List Oper} (n : Nat) (hm : P.follows .mixedOrders = true) (hB : partB l.toArray n = true) (hS : Region.seqB .any l.toArray (l.length - n) n (marked l.toArray.size n) = true)
    (h : wpQuiet P l.toArray (fun w' => ∃ x, w' = more w x) (fun a' => ∀ w', (∃ x, w' = more w x) → wpList P l.toArray Q (l.drop n) a' w') (l.take n) a) : (Code.region id l.toArray true).wp P Q a w := by
  have hd : (l.drop n).length = l.length - n := by simp
  have mono : ∀ (l' : List Oper) (F G : Act → Prop) (a : Act), (∀ a, F a → G a) → wpQuiet P l.toArray (fun w' => ∃ x, w' = more w x) F l' a → wpQuiet P l.toArray (fun w' => ∃ x, w' = more w x) G l' a := by
    intro l'
    induction l' with
    | nil => intro F G a hFG h; exact hFG a h
    | cons o l' ih =>
      intro F G a hFG h
      unfold wpQuiet at h ⊢
      split
      · rename_i hw; rw [if_pos hw] at h; exact Oper.quiet_mono (fun a => ih F G a hFG) h
      · rename_i hw; rw [if_neg hw] at h; exact ih F G _ hFG h
  refine wp_region_more_any n hm hB (mono _ _ _ _ (fun a' h' w' hw' => ?_) h)
  have := wpAny_of_seq (P := P) (md := .any) (ops := l.toArray) (Q' := Q) (l.drop n) n (marked l.toArray.size n) a' w' (fun j => by simp [List.getElem?_drop]) (by rw [hd]; exact hS) (h' w' hw')
  rwa [hd] at this
end
end Go.Proofs.YtphmfaddgpjndaaGreat

/- torn.Mix; contracts of package nvm that read. -/
namespace Go.Proofs.YtphmfaddgpjndaaGreat
open Go.ChangeShapes Go.WideShapes Go.RowKit

theorem and1 (x : Int) : bits .and .i64 x 1 = x % 2 := by
  show IntKind.i64.wrap (((BitVec.ofInt 64 x &&& BitVec.ofInt 64 1).toNat : Nat) : Int) = x % 2
  have h1 : (BitVec.ofInt 64 1) = 1#64 := by decide
  rw [h1, BitVec.toNat_and]
  have h2 : (1#64).toNat = 1 := rfl
  rw [h2, Nat.and_one_is_mod, BitVec.toNat_ofInt]
  have h3 : (((x % ((2 ^ 64 : Nat) : Int)).toNat % 2 : Nat) : Int) = x % 2 := by
    have : ((2 ^ 64 : Nat) : Int) = 18446744073709551616 := by decide
    rw [this]; omega
  rw [h3, IntWalk.i64_in _ (by omega)]
attribute [go_sem] and1

/-- is bit i of a mask 1? -/
def bitOf (mask : Int) (i : Nat) : Bool := mask / 2 ^ i % 2 == 1
/-- the first k words mixed -/
def mixTo (lo ln : List Int) (mask : Int) (k : Nat) : List Int := (List.range 8).map fun i => if i < k && bitOf mask i then wd ln i else wd lo i
@[go_sem] theorem mixTo_len (lo ln : List Int) (mask : Int) (k : Nat) : (mixTo lo ln mask k).length = 8 := by simp [mixTo]
theorem wd_mixTo (lo ln : List Int) (mask : Int) (k i : Nat) (hi : i < 8) : wd (mixTo lo ln mask k) i = if i < k && bitOf mask i then wd ln i else wd lo i := by
  simp [wd, mixTo, hi]
theorem wd_set (l : List Int) (k : Nat) (v : Int) (i : Nat) (hi : i < l.length) : wd (l.set k v) i = if i = k then v else wd l i := by
  simp only [wd, List.getD]
  rw [List.getElem?_set]
  by_cases h : i = k
  · subst h; simp [hi]
  · simp [h, Ne.symm h]
theorem mixTo_zero (lo ln : List Int) (mask : Int) (h : lo.length = 8) : mixTo lo ln mask 0 = lo :=
  wd_ext (mixTo_len ..) h fun i hi => by rw [wd_mixTo _ _ _ _ _ hi]; simp
theorem mixTo_set (lo ln : List Int) (mask : Int) (k : Nat) (hk : k < 8) (hb : bitOf mask k = true) : (mixTo lo ln mask k).set k (wd ln k) = mixTo lo ln mask (k + 1) :=
  wd_ext (n := 8) (by simp [mixTo_len]) (mixTo_len ..) fun i hi => by
    rw [wd_set _ _ _ _ (by simp [mixTo_len, hi]), wd_mixTo _ _ _ _ _ hi, wd_mixTo _ _ _ _ _ hi]
    by_cases e : i = k
    · subst e; simp [hb]
    · have : (i < k) ↔ (i < k + 1) := by omega
      simp [e, this]
theorem mixTo_keep (lo ln : List Int) (mask : Int) (k : Nat) (hb : bitOf mask k = false) : mixTo lo ln mask k = mixTo lo ln mask (k + 1) :=
  wd_ext (mixTo_len ..) (mixTo_len ..) fun i hi => by
    rw [wd_mixTo _ _ _ _ _ hi, wd_mixTo _ _ _ _ _ hi]
    by_cases e : i = k
    · subst e; simp [hb]
    · have : (i < k) ↔ (i < k + 1) := by omega
      simp [this]

/-- the mix of two lines -/
def mix (lo ln : List Int) (mask : Int) : List Int := mixTo lo ln mask 8
@[go_sem] theorem mix_len (lo ln : List Int) (mask : Int) : (mix lo ln mask).length = 8 := mixTo_len ..
theorem wd_mix (lo ln : List Int) (mask : Int) (i : Nat) (hi : i < 8) : wd (mix lo ln mask) i = if bitOf mask i then wd ln i else wd lo i := by
  unfold mix; rw [wd_mixTo _ _ _ _ _ hi]; simp [hi]
theorem below3 (w : World) (a b c : Obj) : Below w.heap.size w (((w.alloc a).alloc b).alloc c) :=
  (((Below.refl _ _).alloc (Nat.le_refl _) _).alloc (by simp) _).alloc (by simp; omega) _

theorem sz91 (w : World) : szOf Tryz.prog w 91 = 8 := by unfold szOf; rw [Tryz.sizeOf91]
theorem size91 (w : World) : (sizeOf 91).run Tryz.prog w = .ok (szOf Tryz.prog w 91) w := by rw [sz91]; exact Tryz.sizeOf91 w
set_option maxHeartbeats 400000 in
theorem mix_any (lo ln : List Int) (mask : Int) (w : World) (ho : lo.length = 8) (hn : ln.length = 8) :
    Calls Tryz.prog 150 #[.agg (cs lo), .agg (cs ln), .int .i64 mask] w fun e w' => e = .returned (.agg (cs (mix lo ln mask))) ∧ Below w.heap.size w w' := by
  go_enter Tryz.func150, Tryz.ntmps150
  go_wp2
  go_loopw [10] (fun i wr => ∃ k : Nat, k ≤ 8 ∧ i = .int .i64 k ∧ wr = ((w.alloc (.cells (cs (mixTo lo ln mask k)) 91)).alloc (.cells (cs ln) 91)).alloc (.cells z8 91)) (fun i _ => 8 - (intOf i).toNat)
  case atStart => exact ⟨0, by omega, rfl, by rw [mixTo_zero lo ln mask ho]; rfl⟩
  case round =>
    obtain ⟨k, hk, rfl, rfl⟩ := hrel
    by_cases hlt : k < 8
    · go_wp2
      · have hb : bitOf mask k = true := by assumption
        go_roundw
        case rel => exact ⟨k + 1, by omega, by go_num, by rw [mixTo_set lo ln mask k hlt hb]⟩
        case measure => simp [intOf]; omega
      · have hb : bitOf mask k = false := by assumption
        go_roundw
        case rel => exact ⟨k + 1, by omega, by go_num, by rw [mixTo_keep lo ln mask k hb]⟩
        case measure => simp [intOf]; omega
    · obtain rfl : k = 8 := by omega
      go_wp2
      refine ret_row rfl rfl (Tryz.isAgg91 _) (size91 _) (c := cs (mix lo ln mask)) ?_ rfl ⟨rfl, below3 ..⟩
      simp [go_sem, mix, sz91]

theorem mix_all (lo ln : List Int) (hn : ln.length = 8) : mix lo ln (-1) = ln :=
  wd_ext (mix_len ..) hn fun i hi => by
    rw [wd_mix _ _ _ _ hi]
    have : bitOf (-1) i = true := by
      have : i = 0 ∨ i = 1 ∨ i = 2 ∨ i = 3 ∨ i = 4 ∨ i = 5 ∨ i = 6 ∨ i = 7 := by omega
      rcases this with rfl | rfl | rfl | rfl | rfl | rfl | rfl | rfl <;> decide
    rw [this]; rfl
theorem mix_none (lo ln : List Int) (hn : lo.length = 8) : mix lo ln 0 = lo :=
  wd_ext (mix_len ..) hn fun i hi => by
    rw [wd_mix _ _ _ _ hi]
    have : bitOf 0 i = false := by unfold bitOf; simp
    rw [this]; rfl

/-! ### reading -/
section
variable {w : World} {Mb Cb : Nat} {m : MS}
set_option maxHeartbeats 400000 in
theorem lines_in (h : MemAt w Mb Cb m) : Calls Tryz.prog 86 #[.pointer (some ⟨Mb, 0, none⟩)] w fun e w' => e = .returned (.int .i64 m.n) ∧ w = w' := by
  have c0 := h.c0
  clear h
  go_enter Tryz.func86, Tryz.ntmps86
  go_wp2
  go_ret
  exact ⟨rfl, rfl⟩
set_option maxHeartbeats 400000 in
theorem has_in (h : MemAt w Mb Cb m) (j : Nat) (hj : j < m.n) : Calls Tryz.prog 149 #[.pointer (some ⟨Mb, 0, none⟩), .int .i64 j] w fun e w' => e = .returned (.bool true) ∧ w = w' := by
  have K := Lib.hid (lines_in h)
  have d1 : (j : Int) ≥ 0 := by omega
  have d2 : (j : Int) < (m.n : Int) := by omega
  clear h hj
  go_enter Tryz.func149, Tryz.ntmps149
  go_wp2_with (go_at_call 86; refine K.out.mono ?_; rintro _ _ ⟨rfl, rfl⟩)
  go_ret
  exact ⟨rfl, rfl⟩
set_option maxHeartbeats 400000 in
theorem down_in (h : MemAt w Mb Cb m) : Calls Tryz.prog 87 #[.pointer (some ⟨Mb, 0, none⟩)] w fun e w' => e = .returned (.bool m.down) ∧ w = w' := by
  have c := h.c39
  clear h
  go_enter Tryz.func87, Tryz.ntmps87
  go_wp2
  go_ret
  exact ⟨rfl, rfl⟩
set_option maxHeartbeats 400000 in
theorem writes_in (h : MemAt w Mb Cb m) : Calls Tryz.prog 31 #[.pointer (some ⟨Mb, 0, none⟩)] w fun e w' => e = .returned (.int .i64 m.writes) ∧ w = w' := by
  have c := h.c36
  clear h
  go_enter Tryz.func31, Tryz.ntmps31
  go_wp2
  go_ret
  exact ⟨rfl, rfl⟩
set_option maxHeartbeats 400000 in
theorem hasReg_in (i : Nat) (hi : i < 35) (w : World) : Calls Tryz.prog 88 #[.pointer (some ⟨Mb, 0, none⟩), .int .i64 i] w fun e w' => e = .returned (.bool true) ∧ w = w' := by
  have d1 : (i : Int) ≥ 0 := by omega
  have d2 : (i : Int) < 35 := by omega
  clear hi
  go_enter Tryz.func88, Tryz.ntmps88
  go_wp2
  go_ret
  exact ⟨rfl, rfl⟩
set_option maxHeartbeats 800000 in
theorem reg_in (h : MemAt w Mb Cb m) (hd : m.down = false) (i : Nat) (hi : i < 35) : Calls Tryz.prog 53 #[.pointer (some ⟨Mb, 0, none⟩), .int .i64 i] w fun e w' => e = .returned (.tuple #[.int .u64 (m.reg i), .int .i64 0]) ∧ w = w' := by
  have K := Lib.hid (hasReg_in (Mb := Mb) i hi w)
  have c := h.c39
  have cr := h.creg i hi
  have d1 : (0 : Int) ≥ 0 := by omega
  have d0 : (0 : Int) ≤ (i : Int) := by omega
  have d2 : (i : Int) < 35 := by omega
  rw [hd] at c
  clear h hi
  go_enter Tryz.func53, Tryz.ntmps53
  go_wp2_with (go_at_call 88; refine K.out.mono ?_; rintro _ _ ⟨rfl, rfl⟩)
  go_ret2
  exact ⟨rfl, rfl⟩
end
end Go.Proofs.YtphmfaddgpjndaaGreat

/- Contracts of package nvm: Get, Set, Put, Cut, Power. -/
namespace Go.Proofs.YtphmfaddgpjndaaGreat
open Go.ChangeShapes Go.WideShapes Go.RowKit

/-- the function's end where the first of two results is an array in memory -/
theorem ret_row2 {P : Program} {fn : Func} {R : Ending → World → Prop} {a : Act} {w : World} {p q : Tmp} {t : TypeId} {g o : Nat} {c : Array Value} {v : Value} (h : fn.results = #[.cell p t, .tmp q])
    (hp : a.tmps.getD p undef = .pointer (some ⟨g, o, none⟩)) (ha : (isAgg t).run P w = .ok true w) (hs : (sizeOf t).run P w = .ok (szOf P w t) w) (hr : rowAt (obj w g) o (szOf P w t) = some c) (hq : a.tmps.getD q undef = v) (hd : a.defers = [])
    (hR : R (.returned (.tuple #[.agg c, v])) w) : bodyPost P fn R .ret a w := by
  refine bodyPost_ret (v := .tuple #[.agg c, v]) ?_ hd hR
  have hl := run_loadVar_agg (P := P) w t g o ha hs (by rw [hr]; rfl)
  rw [hr] at hl
  have hp' : a.tmps[p]?.getD undef = .pointer (some ⟨g, o, none⟩) := by simpa using hp
  have hq' : a.tmps[q]?.getD undef = v := by simpa using hq
  simp [results, h, hp', hq', asAddr, hl]
theorem unb_alloc (c : Array Value) (t : TypeId) (w : World) : unbarred (obj (w.alloc (.cells c t)) w.heap.size) = true := by rw [newA]; rfl
theorem extract_all (c : Array Value) (n : Nat) (h : n = c.size) : c.extract 0 n = c := by subst h; exact Array.extract_size
attribute [go_sem] extract_all

section
variable {w : World} {Mb Cb : Nat} {m : MS}
set_option maxHeartbeats 1600000 in
theorem get_in (h : MemAt w Mb Cb m) (hd : m.down = false) (j : Nat) (hj : j < m.n) :
    Calls Tryz.prog 120 #[.pointer (some ⟨Mb, 0, none⟩), .int .i64 j] w fun e w' => e = .returned (.tuple #[.agg (cs (m.line j)), .int .i64 0]) ∧ Below w.heap.size w w' := by
  have K := Lib.hid (has_in (h.alloc (.cells z8 91)) j hj)
  have c39 := h.c39
  have c0 := h.c0
  have hr := h.row j hj
  have hl := h.len j hj
  have d0 : (0 : Int) ≤ (j : Int) := by omega
  have d1 : (j : Int) < (m.n : Int) := by omega
  have hM := h.hM.lt
  have hC := h.hL.lt
  rw [hd] at c39
  rw [Nat.mul_comm] at hr
  generalize m.line j = l at hr hl
  clear h hj
  go_enter Tryz.func120, Tryz.ntmps120
  go_wp2_with (go_at_call 149; refine K.out.mono ?_; rintro _ _ ⟨rfl, rfl⟩)
  refine ret_row2 rfl rfl (Tryz.isAgg91 _) (size91 _) (c := cs l) ?_ rfl rfl ⟨rfl, ?_⟩
  · rw [sz91]
    simp [go_sem, hl]
  · exact (Below.refl _ _).alloc (Nat.le_refl _) _

/-! ### writing -/
/-- one entry other -/
def updF {α : Type} (f : Nat → α) (i : Nat) (v : α) : Nat → α := fun j => if j = i then v else f j
theorem updF_same {α : Type} (f : Nat → α) (i : Nat) (v : α) : updF f i v i = v := by simp [updF]
theorem updF_ne {α : Type} (f : Nat → α) (i : Nat) (v : α) {j : Nat} (h : j ≠ i) : updF f i v j = f j := by simp [updF, h]
theorem updF_self {α : Type} (f : Nat → α) (i : Nat) : updF f i (f i) = f := by
  funext j; unfold updF; split
  · rename_i e; rw [e]
  · rfl
/-- a write more: the power may go -/
def MS.wr (m : MS) : MS := { m with writes := m.writes + 1, down := decide (m.cut = 0) }
/-- which words of it come to be -/
def MS.mk' (m : MS) : Int := if m.cut = 0 then m.mask else -1
/-- what it tells -/
def MS.tells (m : MS) : Int := if m.cut = 0 then 2 else 0
/-- a register written -/
def MS.set (m : MS) (i : Nat) (v : Int) : MS := { m.wr with reg := if m.mk' % 2 = 1 then updF m.reg i v else m.reg }
/-- a line written -/
def MS.put (m : MS) (j : Nat) (l : List Int) : MS := { m.wr with line := updF m.line j (mix (m.line j) l m.mk'), wear := updF m.wear j (m.wear j + 1) }
set_option maxHeartbeats 1600000 in
theorem write_in (h : MemAt w Mb Cb m) (hd : m.down = false) (hc : m.cut ≤ 0) (hw : IntKind.i64.wrap (m.writes + 1) = m.writes + 1) :
    Calls Tryz.prog 144 #[.pointer (some ⟨Mb, 0, none⟩)] w fun e w' => e = .returned (.int .i64 m.mk') ∧ MemAt w' Mb Cb m.wr ∧ Kept [Mb] w w' := by
  obtain ⟨a, ha⟩ : ∃ a, m.writes + 1 = a := ⟨_, rfl⟩
  have hw2 : IntKind.i64.wrap (m.writes + 1) = a := by rw [← ha]; exact hw
  have c36 := h.c36
  have i36 := h.ice 36
  have h1 : MemAt (w.setCell ⟨Mb, 36, none⟩ (.int .i64 a)) Mb Cb { m with writes := a } :=
    ⟨h.hM.set 36 _ _ rfl (by decide) (by decide) (fun j hj => by rw [if_neg (by omega)]) rfl rfl rfl rfl, h.hL.same (obj_setCell_ne w _ _ Cb (Ne.symm h.ne)), h.ne⟩
  have k1 : Kept [Mb] w (w.setCell ⟨Mb, 36, none⟩ (.int .i64 a)) := (Kept.refl _ _).setCell _ (Or.inl (by simp))
  by_cases h0 : m.cut = 0
  · have e1 : m.mk' = m.mask := by unfold MS.mk'; rw [if_pos h0]
    have e2 : m.wr = { m with writes := a, down := true } := by unfold MS.wr; rw [ha, decide_eq_true h0]
    have h2 : MemAt ((w.setCell ⟨Mb, 36, none⟩ (.int .i64 a)).setCell ⟨Mb, 39, none⟩ (.bool true)) Mb Cb { m with writes := a, down := true } :=
      ⟨h1.hM.set 39 _ _ rfl (by decide) (by decide) (fun j hj => by rw [if_neg (by omega)]) rfl rfl rfl rfl, h1.hL.same (obj_setCell_ne _ _ _ Cb (Ne.symm h.ne)), h.ne⟩
    have k2 := k1.setCell (p := ⟨Mb, 39, none⟩) (.bool true) (Or.inl (by simp))
    have c37 := h1.c37
    have c39 := h1.c39
    have i39 := h1.ice 39
    have c38 := h2.c38
    rw [e1, e2]
    simp only at c37 c38 c39
    rw [h0] at c37
    have H2 := Lib.hid h2
    have HK := Lib.hid k2
    rw [obj_setCell_eq] at c37 c39 i39
    rw [obj_setCell_eq, obj_setCell_eq, Option.map_map] at c38
    clear h h1 h2 k1 k2 hd hc hw ha h0 e1 e2
    go_enter Tryz.func144, Tryz.ntmps144
    go_wp2
    go_ret
    exact ⟨rfl, H2.out, HK.out⟩
  · have e1 : m.mk' = -1 := by unfold MS.mk'; rw [if_neg h0]
    have e2 : m.wr = { m with writes := a } := by unfold MS.wr; rw [ha, decide_eq_false h0]; cases m; simp only at hd; subst hd; rfl
    have c37 := h1.c37
    simp only at c37
    rw [e1, e2]
    have d1 : ¬ m.cut > 0 := by omega
    have H1 := Lib.hid h1
    have HK := Lib.hid k1
    rw [obj_setCell_eq] at c37
    clear h h1 k1 hd hc hw ha e1 e2
    go_enter Tryz.func144, Tryz.ntmps144
    go_wp2
    go_ret
    exact ⟨rfl, H1.out, HK.out⟩
set_option maxHeartbeats 400000 in
theorem told_in (h : MemAt w Mb Cb m) : Calls Tryz.prog 145 #[.pointer (some ⟨Mb, 0, none⟩), .bool false] w fun e w' => e = .returned (.int .i64 (if m.down = true then 2 else 0)) ∧ w = w' := by
  have c := h.c39
  clear h
  cases hd : m.down
  · rw [hd] at c
    go_enter Tryz.func145, Tryz.ntmps145
    go_wp2
    go_ret
    exact ⟨rfl, rfl⟩
  · rw [hd] at c
    go_enter Tryz.func145, Tryz.ntmps145
    go_wp2
    go_ret
    exact ⟨rfl, rfl⟩
theorem wr_tells (m : MS) : (if m.wr.down = true then (2 : Int) else 0) = m.tells := by
  unfold MS.wr MS.tells; simp
set_option maxHeartbeats 1600000 in
theorem set_in (h : MemAt w Mb Cb m) (hd : m.down = false) (hc : m.cut ≤ 0) (hw : IntKind.i64.wrap (m.writes + 1) = m.writes + 1) (i : Nat) (hi : i < 35) (v : Int) :
    Calls Tryz.prog 115 #[.pointer (some ⟨Mb, 0, none⟩), .int .i64 i, .int .u64 v] w fun e w' => e = .returned (.int .i64 m.tells) ∧ MemAt w' Mb Cb (m.set i v) ∧ Kept [Mb] w w' := by
  have K0 := Lib.hid (hasReg_in (Mb := Mb) i hi w)
  have K1 := Lib.hid (write_in h hd hc hw)
  have c39 := h.c39
  rw [hd] at c39
  have d0 : (0 : Int) ≤ (i : Int) := by omega
  have d2 : (i : Int) < 35 := by omega
  have HI := Lib.hid hi
  obtain ⟨k, hk⟩ : ∃ k, m.mk' = k := ⟨_, rfl⟩
  have HK := Lib.hid hk
  rw [hk] at K1
  clear h hd hc hw hi hk
  by_cases hb : k % 2 = 1
  · go_enter Tryz.func115, Tryz.ntmps115
    go_wp2_with (go_at_call 88; refine K0.out.mono ?_; rintro _ _ ⟨rfl, rfl⟩)
    refine K1.out.mono ?_
    rintro _ w1 ⟨rfl, hm, hkp⟩
    have cr := hm.creg i HI.out
    have ir := hm.ice (1 + i)
    have hm2 : MemAt (w1.setCell ⟨Mb, 1 + i, none⟩ (.int .u64 v)) Mb Cb (m.set i v) := by
      refine ⟨hm.hM.set (1 + i) _ _ rfl (by omega) (by have := HI.out; omega) (fun j hj => ?_) ?_ ?_ ?_ ?_, hm.hL.same (obj_setCell_ne _ _ _ Cb (Ne.symm hm.ne)), hm.ne⟩
      · unfold MS.set; rw [HK.out, if_pos hb]
        by_cases e : j = i
        · subst e; rw [if_pos rfl]; simp [updF_same]
        · rw [if_neg (by omega)]; simp [updF_ne _ _ _ e]; rfl
      all_goals (rw [if_neg (by have := HI.out; omega)]; rfl)
    have hk2 := hkp.setCell (p := ⟨Mb, 1 + i, none⟩) (.int .u64 v) (Or.inl (by simp))
    have KT := told_in hm2
    have e : (m.set i v).down = m.wr.down := rfl
    rw [e, wr_tells] at KT
    have KT := Lib.hid KT
    have HM := Lib.hid hm2
    have HKp := Lib.hid hk2
    clear hm hkp hm2 hk2 e K0 K1
    go_wp2_with fail
    refine KT.out.mono ?_
    rintro _ _ ⟨rfl, rfl⟩
    go_wp2
    go_ret
    exact ⟨rfl, HM.out, HKp.out⟩
  · go_enter Tryz.func115, Tryz.ntmps115
    go_wp2_with (go_at_call 88; refine K0.out.mono ?_; rintro _ _ ⟨rfl, rfl⟩)
    refine K1.out.mono ?_
    rintro _ w1 ⟨rfl, hm, hkp⟩
    have hm2 : MemAt w1 Mb Cb (m.set i v) := by
      have e : m.set i v = m.wr := by unfold MS.set; rw [HK.out, if_neg hb]; rfl
      rw [e]; exact hm
    have KT := told_in hm2
    have e : (m.set i v).down = m.wr.down := rfl
    rw [e, wr_tells] at KT
    have KT := Lib.hid KT
    have HM := Lib.hid hm2
    have HKp := Lib.hid hkp
    clear hm hkp hm2 e K0 K1
    go_wp2_with fail
    refine KT.out.mono ?_
    rintro _ _ ⟨rfl, rfl⟩
    go_wp2
    go_ret
    exact ⟨rfl, HM.out, HKp.out⟩
end
end Go.Proofs.YtphmfaddgpjndaaGreat

/- Contracts of package nvm: Put, Cut, Power. -/
namespace Go.Proofs.YtphmfaddgpjndaaGreat
open Go.ChangeShapes Go.WideShapes Go.RowKit

section
variable {w w' : World} {Mb Cb : Nat} {m : MS}
/-- a line written -/
theorem LinesIn.setRow {n : Nat} {line : Nat → List Int} {wear : Nat → Int} (h : LinesIn w Cb n line wear) (j : Nat) (hj : j < n) (l : List Int) (hl : l.length = 8) :
    ∃ c, spliceAt (obj w Cb) (10 * j) (cs l) = some c ∧ LinesIn (w.setRow Cb c) Cb n (updF line j l) wear := by
  obtain ⟨c, h1, h2, h3⟩ := h
  have hsz : (cs l).size = 8 := by rw [cs_size, hl]
  have hle : 10 * j + (cs l).size ≤ c.size := by omega
  refine ⟨splice c (10 * j) (cs l), by rw [h1, spliceAt_some _ _ _ _ hle], splice c (10 * j) (cs l), by rw [obj_setRow_eq, h1]; rfl, by rw [size_splice _ _ _ hle]; exact h2, fun k hk => ?_⟩
  obtain ⟨k1, k2, k3, k4⟩ := h3 k hk
  rw [nth_splice _ _ _ hle, nth_splice _ _ _ hle, if_neg (by omega), if_neg (by omega)]
  by_cases e : k = j
  · subst e
    rw [updF_same]
    refine ⟨hl, fun t ht => ?_, k3, k4⟩
    rw [nth_splice _ _ _ hle, if_pos (by omega), show 10 * k + t - 10 * k = t by omega, cs_get l t ht]
  · rw [updF_ne _ _ _ e]
    refine ⟨k1, fun t ht => ?_, k3, k4⟩
    rw [nth_splice _ _ _ hle, if_neg (by omega)]; exact k2 t ht
/-- a count of writes of a line -/
theorem LinesIn.setWear {n : Nat} {line : Nat → List Int} {wear : Nat → Int} (h : LinesIn w Cb n line wear) (j : Nat) (hj : j < n) (a : Int) : LinesIn (w.setCell ⟨Cb, 10 * j + 8, none⟩ (.int .i64 a)) Cb n line (updF wear j a) := by
  obtain ⟨c, h1, h2, h3⟩ := h
  refine ⟨c.setIfInBounds (10 * j + 8) (.int .i64 a), by rw [obj_setCell_eq, h1]; rfl, by simpa using h2, fun k hk => ?_⟩
  obtain ⟨k1, k2, k3, k4⟩ := h3 k hk
  refine ⟨k1, fun t ht => by rw [nth_set (by omega), if_neg (by omega)]; exact k2 t ht, ?_, by rw [nth_set (by omega), if_neg (by omega)]; exact k4⟩
  rw [nth_set (by omega)]
  by_cases e : k = j
  · subst e; rw [if_pos rfl, updF_same]
  · rw [if_neg (by omega), updF_ne _ _ _ e]; exact k3

set_option maxRecDepth 100000 in
set_option maxHeartbeats 3200000 in
theorem put_in (h : MemAt w Mb Cb m) (hd : m.down = false) (hc : m.cut ≤ 0) (hw : IntKind.i64.wrap (m.writes + 1) = m.writes + 1) (j : Nat) (hj : j < m.n) (hwj : IntKind.i64.wrap (m.wear j + 1) = m.wear j + 1) (l : List Int) (hl : l.length = 8) :
    Calls Tryz.prog 125 #[.pointer (some ⟨Mb, 0, none⟩), .int .i64 j, .agg (cs l)] w fun e w' => e = .returned (.int .i64 m.tells) ∧ MemAt w' Mb Cb (m.put j l) ∧ Kept [Mb, Cb] w w' := by
  have hA := h.alloc (.cells (cs l) 91)
  have K0 := Lib.hid (has_in hA j hj)
  have K1 := Lib.hid (write_in hA hd hc hw)
  have c39 := h.c39
  rw [hd] at c39
  have j0 : (0 : Int) ≤ (j : Int) := by omega
  have j1 : (j : Int) < (m.n : Int) := by omega
  have hM := h.hM.lt
  have hC := h.hL.lt
  have HJ := Lib.hid hj
  have HL := Lib.hid hl
  have HWJ := Lib.hid hwj
  have HLT := Lib.hid (And.intro hM hC)
  have hP : obj (w.alloc (.cells (cs l) 91)) w.heap.size = some (.cells (cs l) 91) := newA w _
  have HP := Lib.hid hP
  clear h hA hd hc hw hj hwj hl hP
  go_enter Tryz.func125, Tryz.ntmps125
  go_wp2_with (go_at_call 149; refine K0.out.mono ?_; rintro _ _ ⟨rfl, rfl⟩)
  refine K1.out.mono ?_
  rintro _ w1 ⟨rfl, hm, hk⟩
  have HM := Lib.hid hm
  have HK := Lib.hid (((Kept.refl [Mb, Cb] w).alloc (.cells (cs l) 91)).next hk (by intro n hn; left; simp at hn ⊢; exact Or.inl hn))
  have HP1 := Lib.hid (hk.keep HP.out (by have := HLT.out.1; simp; omega))
  clear K0 K1 hm hk HP c39
  have c0 := HM.out.c0
  have c9 := HM.out.c9 j HJ.out
  rw [Nat.mul_comm 10 j] at c9
  have e0 : m.wr.n = m.n := rfl
  rw [e0] at c0
  go_wp2_with fail
  go_quiet (fail)
  have HM2 : Hid (MemAt (w1.drewN nq) Mb Cb m.wr) := Lib.hid (HM.out.drawn nq)
  have HK2 : Hid (Kept [Mb, Cb] w (w1.drewN nq)) := Lib.hid (HK.out.drawn nq)
  have HP2 : Hid (obj (w1.drewN nq) w.heap.size = some (.cells (cs l) 91)) := Lib.hid HP1.out
  generalize w1.drewN nq = w2 at HM2 HK2 HP2 ⊢
  clear HM HK HP1 c0 c9
  have hr := HM2.out.row j HJ.out
  have hlo := HM2.out.len j HJ.out
  rw [Nat.mul_comm] at hr
  have e1 : m.wr.line = m.line := rfl
  rw [e1] at hr hlo
  obtain ⟨lo, hlo2⟩ : ∃ lo, m.line j = lo := ⟨_, rfl⟩
  rw [hlo2] at hr hlo
  obtain ⟨mk, hmk⟩ : ∃ mk, m.mk' = mk := ⟨_, rfl⟩
  rw [hmk]
  have HLO := Lib.hid hlo2
  have HMK := Lib.hid hmk
  have q := HP2.out
  have b1 := lt_of_obj q
  have b2 := HM2.out.hL.lt
  have hl := HL.out
  clear hlo2 hmk e1 e0
  go_wp2_with fail
  refine wp_region_more_tail 10 (by kernel_rfl) (by kernel_rfl) (by kernel_rfl) ?_
  simp only [List.take_succ_cons, List.take_zero, List.drop_succ_cons, List.drop_zero]
  repeat (go_big_quiet_step ((go_at_call 150; exact more_call (mix_any _ _ _ _ hlo hl))))
  refine wpQuiet_nil ?_
  intro _ hw'
  obtain ⟨y, hw''⟩ := hw'
  subst hw''
  have HM3 := Lib.hid (HM2.out.below (more_below w2 y))
  have HK3 := Lib.hid (HK2.out.more y)
  generalize more w2 y = w3 at HM3 HK3 ⊢
  obtain ⟨c, hs, hL⟩ := HM3.out.hL.setRow j HJ.out (mix lo l mk) (mix_len ..)
  rw [Nat.mul_comm 10 j] at hs
  have HM4 : Hid (MemAt (w3.setRow Cb c) Mb Cb { m.wr with line := updF m.line j (mix lo l mk) }) := Lib.hid ⟨HM3.out.hM.same (obj_setRow_ne _ _ _ _ HM3.out.ne), hL, HM3.out.ne⟩
  have HK4 := Lib.hid (HK3.out.setRow (g := Cb) c (Or.inl (by simp)))
  obtain ⟨a, ha⟩ : ∃ a, m.wear j + 1 = a := ⟨_, rfl⟩
  have hwj : IntKind.i64.wrap (m.wear j + 1) = a := by rw [← ha]; exact HWJ.out
  have HA := Lib.hid ha
  have HM5 : MemAt ((w3.setRow Cb c).setCell ⟨Cb, j * 10 + 8, none⟩ (.int .i64 a)) Mb Cb (m.put j l) := by
    have h := HM4.out.hL.setWear j HJ.out a
    rw [Nat.mul_comm 10 j] at h
    unfold MS.put
    rw [HMK.out, HLO.out, HA.out]
    exact ⟨HM4.out.hM.same (obj_setCell_ne _ _ _ _ HM4.out.ne), h, HM4.out.ne⟩
  have HK5 := Lib.hid (HK4.out.setCell (p := ⟨Cb, j * 10 + 8, none⟩) (.int .i64 a) (Or.inl (by simp)))
  have KT := told_in HM5
  have e : (m.put j l).down = m.wr.down := rfl
  rw [e, wr_tells] at KT
  have KT := Lib.hid KT
  have HM5 := Lib.hid HM5
  have iC := HM4.out.iceC (10 * j + 8)
  have c8 : cellAt (obj (w3.setRow Cb c) Cb) (10 * j + 8) = some (.int .i64 (m.wear j)) := HM4.out.c8 j HJ.out
  rw [obj_setRow_eq, Nat.mul_comm 10 j] at iC c8
  have u3 := HM3.out.unb
  clear hL hr hlo q b1 b2 HP2 HM2 HK2 ha e HM3 HM4 HK3 HK4
  change wpList _ _ _ _ _ w3
  go_wp2_with fail
  refine KT.out.mono ?_
  rintro _ _ ⟨rfl, rfl⟩
  go_wp2
  go_ret
  exact ⟨rfl, HM5.out, HK5.out⟩
set_option maxHeartbeats 800000 in
theorem cut_in (h : MemAt w Mb Cb m) (mk : Int) : Calls Tryz.prog 60 #[.pointer (some ⟨Mb, 0, none⟩), .int .i64 0, .int .i64 mk] w fun e w' => e = .returned (.tuple #[]) ∧ MemAt w' Mb Cb { m with cut := 0, mask := mk } ∧ Kept [Mb] w w' := by
  have h1 : MemAt (w.setCell ⟨Mb, 37, none⟩ (.int .i64 0)) Mb Cb { m with cut := 0 } :=
    ⟨h.hM.set 37 _ _ rfl (by decide) (by decide) (fun j hj => by rw [if_neg (by omega)]) rfl rfl rfl rfl, h.hL.same (obj_setCell_ne _ _ _ Cb (Ne.symm h.ne)), h.ne⟩
  have h2 : MemAt ((w.setCell ⟨Mb, 37, none⟩ (.int .i64 0)).setCell ⟨Mb, 38, none⟩ (.int .i64 mk)) Mb Cb { m with cut := 0, mask := mk } :=
    ⟨h1.hM.set 38 _ _ rfl (by decide) (by decide) (fun j hj => by rw [if_neg (by omega)]) rfl rfl rfl rfl, h1.hL.same (obj_setCell_ne _ _ _ Cb (Ne.symm h.ne)), h.ne⟩
  have k2 := ((Kept.refl [Mb] w).setCell (p := ⟨Mb, 37, none⟩) (.int .i64 0) (Or.inl (by simp))).setCell (p := ⟨Mb, 38, none⟩) (.int .i64 mk) (Or.inl (by simp))
  have c37 := h.c37
  have c38 := h1.c38
  have i37 := h.ice 37
  have i38 := h1.ice 38
  have e1 : max (0 : Int) (-1) = 0 := by decide
  rw [obj_setCell_eq] at c38 i38
  have H2 := Lib.hid h2
  have HK := Lib.hid k2
  clear h h1 h2 k2
  go_enter Tryz.func60, Tryz.ntmps60
  go_wp2
  go_end0
  exact ⟨rfl, H2.out, HK.out⟩
set_option maxHeartbeats 800000 in
theorem power_in (h : MemAt w Mb Cb m) : Calls Tryz.prog 61 #[.pointer (some ⟨Mb, 0, none⟩)] w fun e w' => e = .returned (.tuple #[]) ∧ MemAt w' Mb Cb { m with cut := -1, down := false } ∧ Kept [Mb] w w' := by
  have h1 : MemAt (w.setCell ⟨Mb, 37, none⟩ (.int .i64 (-1))) Mb Cb { m with cut := -1 } :=
    ⟨h.hM.set 37 _ _ rfl (by decide) (by decide) (fun j hj => by rw [if_neg (by omega)]) rfl rfl rfl rfl, h.hL.same (obj_setCell_ne _ _ _ Cb (Ne.symm h.ne)), h.ne⟩
  have h2 : MemAt ((w.setCell ⟨Mb, 37, none⟩ (.int .i64 (-1))).setCell ⟨Mb, 39, none⟩ (.bool false)) Mb Cb { m with cut := -1, down := false } :=
    ⟨h1.hM.set 39 _ _ rfl (by decide) (by decide) (fun j hj => by rw [if_neg (by omega)]) rfl rfl rfl rfl, h1.hL.same (obj_setCell_ne _ _ _ Cb (Ne.symm h.ne)), h.ne⟩
  have k2 := ((Kept.refl [Mb] w).setCell (p := ⟨Mb, 37, none⟩) (.int .i64 (-1)) (Or.inl (by simp))).setCell (p := ⟨Mb, 39, none⟩) (.bool false) (Or.inl (by simp))
  have c37 := h.c37
  have c39 := h1.c39
  have i37 := h.ice 37
  have i39 := h1.ice 39
  rw [obj_setCell_eq] at c39 i39
  have H2 := Lib.hid h2
  have HK := Lib.hid k2
  clear h h1 h2 k2
  go_enter Tryz.func61, Tryz.ntmps61
  go_wp2
  go_end0
  exact ⟨rfl, H2.out, HK.out⟩
end
end Go.Proofs.YtphmfaddgpjndaaGreat
