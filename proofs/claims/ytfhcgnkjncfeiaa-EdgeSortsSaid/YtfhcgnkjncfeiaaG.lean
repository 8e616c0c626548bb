/- Slices of whole numbers as arguments: opened; all arguments read as they did where new blocks alone were made. -/
import Derived.Test.YtfhcgnkjncfeiaaF
import Derived.Carry
namespace Go.Proofs.Ytfhcgnkjncfeiaa
open Go.ChangeShapes Go.WideShapes Go.ChangeAt Go.RowKit

theorem laidOut : laidOutB Try.prog = true := by kernel_rfl

section
variable {H : Type} {enc : TypeId × Value → H} {P : Program}
/-- the arguments read as they did, where new blocks alone were made -/
theorem trodAll_stays (hl : laidOutB P = true) {W W' : World} (hb : Below W.heap.size W W') : ∀ {ts : List TypeId} {vs : List Value} {ds : List (DataW H)} {ps : List MemPlace},
    (∀ t ∈ ts, P.readableRec t = true ∧ t < P.types.size) → DataW.TrodAll enc P W 0 (fun _ => true) true ts vs ds ps → (∀ x ∈ ps, x.block < W.heap.size) →
    ∀ sp : Nat → Bool, (∀ p ∈ ps, sp p.block = true) → DataW.TrodAll enc P W' 0 sp true ts vs ds ps := by
  intro ts
  induction ts with
  | nil =>
    intro vs ds ps _ h _ sp _
    obtain ⟨rfl, rfl, rfl⟩ := trodAll_nil h
    exact trodAll_mk0
  | cons t ts ih =>
    intro vs ds ps hr h hlt sp hsp
    obtain ⟨v, vs', d, ds', p, q, rfl, rfl, rfl, h1, h2⟩ := trodAll_cons h
    refine trodAll_cons_mk ?_ (ih (fun t ht => hr t (by simp [ht])) h2 (fun x hx => hlt x (by simp [hx])) sp (fun x hx => hsp x (by simp [hx])))
    exact WideElems.Trod_stays hl (hr t (by simp)).1 (hr t (by simp)).2 h1 (fun x hx => hb.same (hlt x (by simp [hx]))) (fun x hx => hsp x (by simp [hx]))

/-- a slice of whole numbers -/
def IntSlice (W : World) (v : Value) (l : List Int) : Prop :=
  (∃ ao cap, v = .slice ao 0 cap ∧ l = []) ∨ ∃ b off cap, v = .slice (some ⟨b, off, none⟩) l.length cap ∧ 0 < l.length ∧ l.length ≤ cap ∧ cap ≤ maxLen ∧ ∀ j, j < l.length → cellAt (obj W b) (off + j) = some (.int .i64 (l.getD j 0))
theorem open_slice {r : Reach} {b0 : Nat} {t e : TypeId} {W : World} {v : Value} {d : DataW H} {ps : List MemPlace} (ht : P.underlying t = some (.slice e)) (he : P.underlying e = some (.int .i64)) (hc : P.cellsOf e = 1)
    (hval : Value.okWide P W r b0 t v) (h : DataW.Trod enc P W 0 (fun _ => true) true t v d ps) : ∃ l : List Int, IntSlice W v l ∧ (∀ x ∈ l, (Lit.int .i64 x).wf = true) := by
  obtain ⟨fuel, hf⟩ := h
  obtain ⟨a0, n0, c0, rfl⟩ := okWide_slice ht hval
  rcases open_ints ht he hc hf with ⟨hcs, _⟩ | ⟨a, len, cap, zs, hcs, _, hlc, hcm, hzl, _, hcell, hwf⟩
  · have hv : Value.slice a0 n0 c0 = .slice none 0 0 := by simpa [Value.cells] using hcs
    exact ⟨[], Or.inl ⟨none, 0, hv, rfl⟩, by simp⟩
  · have hv : Value.slice a0 n0 c0 = .slice (some a) len cap := by simpa [Value.cells] using hcs
    simp only [if_true] at hzl
    refine ⟨zs.take len, ?_, fun x hx => hwf x (List.mem_of_mem_take hx)⟩
    have hlen : (zs.take len).length = len := by simp; omega
    by_cases h0 : len = 0
    · subst h0
      exact Or.inl ⟨_, _, hv, by simp⟩
    · obtain ⟨b, off, rfl, hb⟩ := ints_at hcell (by omega)
      refine Or.inr ⟨b, off, cap, by rw [hlen]; exact hv, by omega, by omega, hcm, fun j hj => ?_⟩
      have := hb j (by omega)
      rw [cell?_heap] at this
      rw [this]
      rw [hlen] at hj
      simp only [List.getD_eq_getElem?_getD, List.getElem?_take, if_pos hj]
end
end Go.Proofs.Ytfhcgnkjncfeiaa
