/- Slices of whole numbers as arguments, with the reach: how long they can be. -/
import Derived.Test.YtfhcgnkjncfeiaaG
import Derived.SizedLaws
namespace Go.Proofs.Ytfhcgnkjncfeiaa
open Go.ChangeShapes Go.WideShapes Go.ChangeAt Go.RowKit

section
variable {H : Type} {enc : TypeId × Value → H} {P : Program}
theorem open_slice_len {r : Reach} {b0 : Nat} {t e : TypeId} {W : World} {v : Value} {d : DataW H} {ps : List MemPlace} (ht : P.underlying t = some (.slice e)) (he : P.underlying e = some (.int .i64)) (hc : P.cellsOf e = 1)
    (hval : Value.okWide P W r b0 t v) (h : DataW.Trod enc P W 0 (fun _ => true) true t v d ps) : ∃ l : List Int, IntSlice W v l ∧ (∀ x ∈ l, (Lit.int .i64 x).wf = true) ∧ (l = [] ∨ ∃ rest, d = .slice (lits .i64 l) rest) := by
  obtain ⟨fuel, hf⟩ := h
  obtain ⟨a0, n0, c0, rfl⟩ := okWide_slice ht hval
  rcases open_ints ht he hc hf with ⟨hcs, _⟩ | ⟨a, len, cap, zs, hcs, _, hlc, hcm, hzl, hd, hcell, hwf⟩
  · have hv : Value.slice a0 n0 c0 = .slice none 0 0 := by simpa [Value.cells] using hcs
    exact ⟨[], Or.inl ⟨none, 0, hv, rfl⟩, by simp, Or.inl rfl⟩
  · have hv : Value.slice a0 n0 c0 = .slice (some a) len cap := by simpa [Value.cells] using hcs
    simp only [if_true] at hzl
    have hd' : d = .slice (lits .i64 (zs.take len)) (lits .i64 (zs.drop len)) := (Prod.mk.inj hd).1
    refine ⟨zs.take len, ?_, fun x hx => hwf x (List.mem_of_mem_take hx), Or.inr ⟨_, hd'⟩⟩
    have hlen : (zs.take len).length = len := by simp; omega
    by_cases h0 : len = 0
    · subst h0
      exact Or.inl ⟨_, _, hv, by simp⟩
    · obtain ⟨b, off, rfl, hb⟩ := ints_at hcell (by omega)
      refine Or.inr ⟨b, off, cap, by rw [hlen]; exact hv, by omega, by omega, hcm, fun j hj => ?_⟩
      have := hb j (by omega)
      rw [cell?_heap] at this
      rw [this]
      rw [hlen] at hj
      simp only [List.getD_eq_getElem?_getD, List.getElem?_take, if_pos hj]
theorem len_bound {ts : List TypeId} {ds : List (DataW H)} {d : DataW H} {l : List Int} (h : (DataW.weightsEach P ts ds).all (· ≤ reachBytes) = true) (hl : l = [] ∨ ∃ rest, d = .slice (lits .i64 l) rest) (j : Nat) {t e : TypeId} (ht : ts[j]? = some t) (hd : ds[j]? = some d) (hu : P.underlying t = some (.slice e)) (h8 : P.bytesOf e = 8) : l.length ≤ 17592186044416 := by
  rcases hl with rfl | ⟨rest, rfl⟩
  · simp
  · have h1 := sized_slice h ht hd hu
    have h2 := reachBytes_lt
    rw [h8] at h1
    have h3 : (lits (H := H) .i64 l).length = l.length := by simp [lits]
    have h4 : (2 : Nat) ^ 47 = 140737488355328 := by decide
    omega
end
end Go.Proofs.Ytfhcgnkjncfeiaa
