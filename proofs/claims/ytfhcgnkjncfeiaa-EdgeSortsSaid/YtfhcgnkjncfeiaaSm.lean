/- EdgeSorts: the row that is turned, and sorted. (gensm.py prints this text.) -/
import Derived.Test.YtfhcgnkjncfeiaaSl
import Derived.Test.YtfhcgnkjncfeiaaJ
import Derived.Laws.AppendOwnNone
namespace Go.Proofs.Ytfhcgnkjncfeiaa
open Go.ChangeShapes Go.WideShapes Go.RowKit Fl

def turnF (F : Nat → Nat) (k n : Nat) (j : Nat) : Nat := if j < n - k then F (k + j) else F (j - (n - k))
theorem turnF_row (F : Nat → Nat) (k n : Nat) (hk : k ≤ n) : rowF (fun j => F (k + j)) (n - k) ++ rowF F k = rowF (turnF F k n) n := by
  apply List.ext_getElem?
  intro j
  by_cases h : j < n - k
  · rw [List.getElem?_append_left (by rw [rowF_len]; exact h), rowF_get _ _ _ h, rowF_get _ _ _ (by omega)]
    unfold turnF; rw [if_pos h]
  · rw [List.getElem?_append_right (by rw [rowF_len]; omega), rowF_len]
    by_cases h2 : j < n
    · rw [rowF_get _ _ _ (by omega), rowF_get _ _ _ h2]
      unfold turnF; rw [if_neg h]
    · rw [List.getElem?_eq_none (by rw [rowF_len]; omega), List.getElem?_eq_none (by rw [rowF_len]; omega)]
theorem first_len2 (F : Nat → Nat) (n : Nat) : (first F n).length = n := by simp [first]
theorem turnF_perm (F : Nat → Nat) (k n : Nat) (hk : k ≤ n) : (first (turnF F k n) n).Perm (first F n) := by
  have e1 : first (turnF F k n) n = first (fun j => F (k + j)) (n - k) ++ first F k := by
    apply List.ext_getElem?
    intro j
    by_cases h : j < n - k
    · rw [List.getElem?_append_left (by rw [first_len]; exact h), first_get _ _ _ h, first_get _ _ _ (by omega)]
      unfold turnF; rw [if_pos h]
    · rw [List.getElem?_append_right (by rw [first_len]; omega), first_len]
      by_cases h2 : j < n
      · rw [first_get _ n j h2, first_get F k (j - (n - k)) (by omega)]
        unfold turnF; rw [if_neg h]
      · rw [List.getElem?_eq_none (by rw [first_len]; omega), List.getElem?_eq_none (by rw [first_len]; omega)]
  have e2 : first F n = first F k ++ first (fun j => F (k + j)) (n - k) := by
    apply List.ext_getElem?
    intro j
    by_cases h : j < k
    · rw [List.getElem?_append_left (by rw [first_len]; exact h), first_get _ _ _ h, first_get _ _ _ (by omega)]
    · rw [List.getElem?_append_right (by rw [first_len]; omega), first_len]
      by_cases h2 : j < n
      · rw [first_get F n j h2, first_get (fun j => F (k + j)) (n - k) (j - k) (by omega)]
        congr 1; congr 1; omega
      · rw [List.getElem?_eq_none (by rw [first_len]; omega), List.getElem?_eq_none (by rw [first_len]; omega)]
  rw [e1, e2]
  exact List.perm_append_comm
theorem turnF_wd {F : Nat → Nat} (k n : Nat) (hF : ∀ j, Wd (F j)) (j : Nat) : Wd (turnF F k n j) := by unfold turnF; split <;> exact hF _
/-- what is appended: a slice of the row, or none -/
def Src (w0 : World) (v : Value) (m : Nat) (F : Nat → Nat) : Prop := (v = .slice none 0 0 ∧ m = 0) ∨ ∃ ad c, v = .slice (some ad) m c ∧ ∀ w, Below w0.heap.size w0 w → ∀ j u, (rowF F m)[j]? = some u → w.cell? (ad.add j) = some u
theorem grown_refl (w : World) (row : Option Nat) : w.grownBy w row := ⟨rfl, rfl, rfl, Nat.le_refl _, fun _ _ _ => rfl⟩
theorem wp_append_src {w w0 : World} {P : Program} {o : Oper} {a : Act} {K : Act → World → Prop} {Q : Exit → Act → World → Prop} (s x : Operand) (t : TypeId)
    (ho : o.op = .call { callee := .builtin .append, args := #[s, x], argTypes := #[t, t] })
    (base : Nat) (e : TypeId) (i : TypeInfo) (z : Value) (ht : P.underlying t = some (.slice e)) (hi : P.info? e = some i) (hz : i.zero = some z)
    (hsize : i.size = 1) (hby : i.bytes = 8) (hzs : z.cells.size = 1)
    (v : Value) (n : Nat) (xs : List Value) (hs : a.eval s = v) (hown : w.ownsRow base e 1 v n xs)
    (sv : Value) (m : Nat) (F : Nat → Nat) (hx : a.eval x = sv) (hsrc : Src w0 sv m F) (hb : Below w0.heap.size w0 w)
    (h63 : n + m ≤ 100000) (hbase : base ≤ w.heap.size)
    (h : ∀ v' w', w'.ownsRow base e 1 v' (n + m) (xs ++ rowF F m) → w.grownBy w' v.ownBlock → K (a.put o.dst v') w') : o.wp P a w K Q := by
  rcases hsrc with ⟨rfl, rfl⟩ | ⟨ad, c, rfl, hc⟩
  · have hrun := run_append_owned_none (P := P) (w := w) base t o.type e i 1 ht hi v n xs hown
    unfold Oper.wp
    simp [execOp, ho, resolve, invoke, builtin, hs, hx, hrun, Result.andThen]
    refine h v w ?_ (grown_refl _ _)
    simpa [rowF] using hown
  · exact wp_append_own w s x t ho base e i z 1 8 ht hi hz hsize hby hzs (by omega) v n xs hs hown ad m c (rowF F m) hx (by rw [rowF_len]; omega) (hc w hb) (rowF_one _ _) (by unfold maxLen; omega) (by omega) hbase fun v' w' h1 h2 _ => h v' w' h1 h2

/-- the slots' facts -/
def srtL (mv v3 v7 : Value) (k : Nat) : List (Nat × Nat × Value) :=
  [(1, 27, mv), (2, 28, .int .i64 k), (3, 29, v3), (5, 31, mv), (6, 32, .int .i64 k), (7, 33, v7)]
def srtO : List (Nat × Nat) := [(4, 0), (8, 4), (9, 8), (10, 9)]
/-- a row in order of the same numbers -/
def Sorted (w : World) (v : Value) (n : Nat) (F : Nat → Nat) : Prop := ∃ R, SlF w v n R ∧ (first R n).Perm (first F n) ∧ Ordd R 0 n ∧ ∀ j, Wd (R j)
theorem Sorted.kept {w w' : World} {v : Value} {n : Nat} {F : Nat → Nat} (h : Sorted w v n F) (hb : Below w.heap.size w w') : Sorted w' v n F := by
  obtain ⟨R, h1, h2⟩ := h
  exact ⟨R, h1.kept hb, h2⟩
/-- the row that is made -/
structure SrtW (w0 : World) (F : Nat → Nat) (k n : Nat) (d0 d4 d8 d9 d10 : Bool) (t26 t30 t34 t35 t8 : Value) (w : World) : Prop where
  hb : Below w0.heap.size w0 w
  r0 : d0 = true → d4 = false → w.ownsRow w0.heap.size 25 1 t26 0 []
  r4 : d4 = true → d8 = false → w.ownsRow w0.heap.size 25 1 t30 (n - k) (rowF (fun j => F (k + j)) (n - k))
  r8 : d8 = true → d9 = false → w.ownsRow w0.heap.size 25 1 t34 n (rowF (turnF F k n) n)
  r9 : d9 = true → Sorted w t35 n F
  r10 : d10 = true → t8 = t35
def SrtI (w0 : World) (F : Nat → Nat) (mv v3 v7 : Value) (k n : Nat) (T0 : Nat → Value) (d : Nat → Bool) (T : Nat → Value) (w : World) : Prop :=
  Facts (srtL mv v3 v7 k) d T ∧ Ord srtO d ∧ (∀ j, j < 8 ∨ (8 < j ∧ j < 26) ∨ 35 < j → T j = T0 j) ∧ SrtW w0 F k n (d 0) (d 4) (d 8) (d 9) (d 10) (T 26) (T 30) (T 34) (T 35) (T 8) w
theorem SrtI.plain {w0 : World} {F : Nat → Nat} {mv v3 v7 : Value} {k n : Nat} {T0 : Nat → Value} {d : Nat → Bool} {T : Nat → Value} {w : World} (h : SrtI w0 F mv v3 v7 k n T0 d T w) (i s : Nat) (v : Value) (hi : i ≠ 0 ∧ i ≠ 4 ∧ i ≠ 8 ∧ i ≠ 9 ∧ i ≠ 10) (hs : s = 27 ∨ s = 28 ∨ s = 29 ∨ s = 31 ∨ s = 32 ∨ s = 33)
    (hl : ∀ x ∈ srtL mv v3 v7 k, if x.1 = i then x.2.1 = s ∧ x.2.2 = v else x.2.1 ≠ s) : SrtI w0 F mv v3 v7 k n T0 (also d i) (upd T s v) w := by
  obtain ⟨h1, h2, h3, h4⟩ := h
  refine ⟨h1.step i s v hl, h2.step i (by intro x hx; simp [srtO] at hx; rcases hx with rfl | rfl | rfl | rfl <;> simp <;> omega), fun j hj => by unfold upd; rw [if_neg (by omega)]; exact h3 j hj, ?_⟩
  have e : ∀ j, j ≠ i → also d i j = d j := fun j hj => by unfold also; rw [if_neg hj]
  have e2 : ∀ j, j ≠ s → upd T s v j = T j := fun j hj => by unfold upd; rw [if_neg hj]
  rw [e 0 (by omega), e 4 (by omega), e 8 (by omega), e 9 (by omega), e 10 (by omega), e2 26 (by omega), e2 30 (by omega), e2 34 (by omega), e2 35 (by omega), e2 8 (by omega)]
  exact h4
/-- the slices of the row -/
def Cutt (w0 : World) (mv v3 v7 : Value) (k n : Nat) (F : Nat → Nat) : Prop :=
  (mv = .slice none 0 0 ∧ v3 = .slice none 0 0 ∧ v7 = .slice none 0 0 ∧ n = 0 ∧ k = 0) ∨
  ∃ g cap, mv = .slice (some ⟨g, 0, none⟩) n cap ∧ v3 = .slice (some ⟨g, if cap = k then 0 else k, none⟩) (n - k) (cap - k) ∧ v7 = .slice (some ⟨g, 0, none⟩) k cap ∧ 0 < n ∧ k ≤ n ∧ n ≤ cap ∧ cap ≤ 9223372036854775807 ∧ ∀ j, j < n → cellAt (obj w0 g) j = some (.float .f64 (F j))
theorem Cutt.src3 {w0 : World} {mv v3 v7 : Value} {k n : Nat} {F : Nat → Nat} (h : Cutt w0 mv v3 v7 k n F) : Src w0 v3 (n - k) (fun j => F (k + j)) := by
  rcases h with ⟨_, rfl, _, rfl, rfl⟩ | ⟨g, cap, _, rfl, _, h0, hk, hc, _, hI⟩
  · exact Or.inl ⟨rfl, rfl⟩
  · refine Or.inr ⟨_, _, rfl, fun w hb => ?_⟩
    by_cases e : k = n
    · intro j u hu
      rw [List.getElem?_eq_none (by rw [rowF_len]; omega)] at hu; cases hu
    · rw [if_neg (by omega)]
      exact newsF_at (F := fun j => F (k + j)) (fun j hj => hI (k + j) (by omega)) hb
theorem Cutt.src7 {w0 : World} {mv v3 v7 : Value} {k n : Nat} {F : Nat → Nat} (h : Cutt w0 mv v3 v7 k n F) : Src w0 v7 k F := by
  rcases h with ⟨_, _, rfl, rfl, rfl⟩ | ⟨g, cap, _, _, rfl, h0, hk, hc, _, hI⟩
  · exact Or.inl ⟨rfl, rfl⟩
  · refine Or.inr ⟨_, _, rfl, fun w hb => ?_⟩
    exact newsF_at (fun j hj => by rw [Nat.zero_add]; exact hI j (by omega)) hb
end Go.Proofs.Ytfhcgnkjncfeiaa
