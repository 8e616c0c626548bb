/- Slices of numbers without sign as arguments: opened. -/
import Derived.Test.YtfhcgnkjncfeiaaG
namespace Go.Proofs.Ytfhcgnkjncfeiaa
open Go.ChangeShapes Go.WideShapes Go.ChangeAt Go.RowKit

section
variable {H : Type} {enc : TypeId × Value → H} {P : Program}
/-- a slice of numbers without sign -/
def BitSlice (W : World) (v : Value) (l : List Int) : Prop :=
  (∃ ao cap, v = .slice ao 0 cap ∧ l = []) ∨ ∃ b off cap, v = .slice (some ⟨b, off, none⟩) l.length cap ∧ 0 < l.length ∧ l.length ≤ cap ∧ cap ≤ maxLen ∧ ∀ j, j < l.length → cellAt (obj W b) (off + j) = some (.int .u64 (l.getD j 0))
theorem open_bits {r : Reach} {b0 : Nat} {t e : TypeId} {W : World} {v : Value} {d : DataW H} {ps : List MemPlace} (ht : P.underlying t = some (.slice e)) (he : P.underlying e = some (.int .u64)) (hc : P.cellsOf e = 1)
    (hval : Value.okWide P W r b0 t v) (h : DataW.Trod enc P W 0 (fun _ => true) true t v d ps) : ∃ l : List Int, BitSlice W v l ∧ (∀ x ∈ l, (Lit.int .u64 x).wf = true) := by
  obtain ⟨fuel, hf⟩ := h
  obtain ⟨a0, n0, c0, rfl⟩ := okWide_slice ht hval
  rcases open_ints ht he hc hf with ⟨hcs, _⟩ | ⟨a, len, cap, zs, hcs, _, hlc, hcm, hzl, _, hcell, hwf⟩
  · have hv : Value.slice a0 n0 c0 = .slice none 0 0 := by simpa [Value.cells] using hcs
    exact ⟨[], Or.inl ⟨none, 0, hv, rfl⟩, by simp⟩
  · have hv : Value.slice a0 n0 c0 = .slice (some a) len cap := by simpa [Value.cells] using hcs
    simp only [if_true] at hzl
    refine ⟨zs.take len, ?_, fun x hx => hwf x (List.mem_of_mem_take hx)⟩
    have hlen : (zs.take len).length = len := by simp; omega
    by_cases h0 : len = 0
    · subst h0
      exact Or.inl ⟨_, _, hv, by simp⟩
    · obtain ⟨b, off, rfl, hb⟩ := ints_at hcell (by omega)
      refine Or.inr ⟨b, off, cap, by rw [hlen]; exact hv, by omega, by omega, hcm, fun j hj => ?_⟩
      have := hb j (by omega)
      rw [cell?_heap] at this
      rw [this]
      rw [hlen] at hj
      simp only [List.getD_eq_getElem?_getD, List.getElem?_take, if_pos hj]
end
end Go.Proofs.Ytfhcgnkjncfeiaa
