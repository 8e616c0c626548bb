/- Of: numbers of their bits. -/
import Derived.Test.YtfhcgnkjncfeiaaSj
import Derived.Test.YtfhcgnkjncfeiaaG3
namespace Go.Proofs.Ytfhcgnkjncfeiaa
open Go.ChangeShapes Go.WideShapes Go.RowKit Fl

/-- a slice of n numbers without sign -/
def SlU (w : World) (v : Value) (n : Nat) (F : Nat → Nat) : Prop :=
  (∃ ao cap, v = .slice ao 0 cap ∧ n = 0) ∨ ∃ b off cap, v = .slice (some ⟨b, off, none⟩) n cap ∧ 0 < n ∧ n ≤ cap ∧ cap ≤ 9223372036854775807 ∧ ∀ j, j < n → cellAt (obj w b) (off + j) = some (.int .u64 (F j : Nat))
theorem SlU.form {w : World} {v : Value} {n : Nat} {f : Nat → Nat} (h : SlU w v n f) : ∃ ao cap, v = .slice ao n cap := by
  rcases h with ⟨ao, cap, h, rfl⟩ | ⟨b, off, cap, h, _⟩
  · exact ⟨ao, cap, h⟩
  · exact ⟨_, cap, h⟩
theorem bits_fn {w : World} {v : Value} {l : List Int} (s : BitSlice w v l) (g : ∀ x ∈ l, (Lit.int .u64 x).wf = true) : ∃ F : Nat → Nat, (∀ j, Wd (F j)) ∧ SlU w v l.length F := by
  have hg : ∀ j, ∃ x : Nat, l.getD j 0 = x ∧ Wd x := by
    intro j
    rw [List.getD_eq_getElem?_getD]
    cases h : l[j]? with
    | none => exact ⟨0, rfl, by unfold Wd; decide⟩
    | some x => exact wd_of_wf (g x (List.mem_of_getElem? h))
  refine ⟨fun j => (l.getD j 0).toNat, fun j => ?_, ?_⟩
  · obtain ⟨x, e, hx⟩ := hg j
    simp only [e, Int.toNat_natCast]; exact hx
  · rcases s with ⟨ao, cap, rfl, rfl⟩ | ⟨b, off, cap, rfl, h0, h1, h2, h3⟩
    · exact Or.inl ⟨ao, cap, rfl, rfl⟩
    · refine Or.inr ⟨b, off, cap, rfl, h0, h1, by unfold maxLen at h2; omega, fun j hj => ?_⟩
      rw [h3 j hj]
      obtain ⟨x, e, _⟩ := hg j
      show _ = some (Value.int .u64 (((l.getD j 0).toNat : Nat) : Int))
      rw [e, Int.toNat_natCast]
set_option maxRecDepth 100000 in
set_option maxHeartbeats 3200000 in
theorem of_any (w : World) (v : Value) (n : Nat) (F : Nat → Nat) (h : SlU w v n F) (hn : n ≤ 1000) :
    Calls Try.prog 59 #[v] w fun e w' => ∃ v', e = .returned v' ∧ w'.ownsRow w.heap.size 25 1 v' n (rowF F n) ∧ (n = 0 → v' = .slice none 0 0) ∧ Below w.heap.size w w' := by
  obtain ⟨i0, hi0, hz0, hz1, hz2⟩ := info_parts info25
  have HV := Lib.hid h
  have HN := Lib.hid hn
  obtain ⟨ao, cap, rfl⟩ := h.form
  clear h hn
  go_enter Try.func59, Try.ntmps59
  go_wp2_with fail
  go_loopw [3, 8] (fun s i wr => ∃ k : Nat, k ≤ n ∧ i = .int .i64 k ∧ wr.ownsRow w.heap.size 25 1 s k (rowF F k) ∧ (k = 0 → s = .slice none 0 0) ∧ Below w.heap.size w wr) (fun _ i _ => n - (intOf i).toNat)
  case atStart => exact ⟨0, Nat.zero_le _, rfl, World.ownsRow_nil _ _ _ _, fun _ => rfl, Below.refl _ _⟩
  case round =>
    obtain ⟨k, hk, rfl, o1, oz, ob⟩ := hrel
    have H1 := Lib.hid o1
    have HZ := Lib.hid oz
    have HB := Lib.hid ob
    clear o1 oz ob
    by_cases hlt : k < n
    · have hltz : (k : Int) < (n : Int) := by omega
      have k0 : (0 : Int) ≤ (k : Int) := Int.natCast_nonneg k
      rcases HV.out with ⟨_, _, _, e⟩ | ⟨b1, off1, c1, e1, _, _, _, hI⟩
      · exfalso; omega
      obtain ⟨rfl, rfl⟩ : ao = some ⟨b1, off1, none⟩ ∧ cap = c1 := by simpa using e1
      have cJ := cell_kept HB.out (hI k hlt)
      have wk : IntKind.i64.wrap ((k : Int) + 1) = (k : Int) + 1 := by have := HN.out; rw [IntKind.wrap_i64]; omega
      obtain ⟨x, hx⟩ : ∃ x, F k = x := ⟨_, rfl⟩
      rw [hx] at cJ
      have HX := Lib.hid hx
      have HLT := Lib.hid hlt
      clear hlt hk hI e1 hx
      go_wp2_with (at_builtin; refine wpList_append_lies _ rfl (.tmp 12) (.tmp 15) 60 rfl w.heap.size 25 i0 _ 1 8 Try.underlying60 hi0 hz0 hz1 hz2 rfl (by decide) _ k _ rfl (H1.out.alloc _) ⟨wr.heap.size, 0, none⟩ 1 1 [.float .f64 x] rfl rfl (cell_one_new _ _ _) (by simp [Value.oneCell']) (by decide) (by have := HN.out; have := HLT.out; unfold maxLen; omega) (by have := HN.out; have := HLT.out; omega) (by have := HB.out.size; simp; omega) (wr.heap.size + 1) (by simp) ?_; intro gA cA wA hownA hgrowA hatA hltA)
      exact ⟨⟨k + 1, HLT.out, by simp, by rw [rowF_succ, HX.out]; exact hownA, fun e => (by omega), below_own HB.out HB.out.size H1.out hgrowA⟩, by have := HLT.out; simp only [intOf]; omega⟩
    · have : k = n := by omega
      subst this
      have hltz : ¬ (k : Int) < (k : Int) := by omega
      clear hk hlt
      go_wp2
      go_ret
      exact ⟨_, rfl, H1.out, HZ.out, HB.out⟩
end Go.Proofs.Ytfhcgnkjncfeiaa
