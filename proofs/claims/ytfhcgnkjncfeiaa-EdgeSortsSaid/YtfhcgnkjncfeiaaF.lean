/- Rows of words as arguments: opened and shut. -/
import Derived.Test.YtfhcgnkjncfeiaaM
import Derived.ProofKit
import Derived.OpenShut
namespace Go.Proofs.Ytfhcgnkjncfeiaa
open Go.ChangeShapes Go.WideShapes Go.ChangeAt Go.RowKit

theorem own : ownKnob Try.prog.godebug = none := by kernel_rfl

theorem mapM_some {α β : Type} (f : α → Option β) (g : α → β) : ∀ (l : List α), (∀ a ∈ l, f a = some (g a)) → l.mapM f = some (l.map g)
  | [], _ => rfl
  | a :: l, h => by
    rw [List.mapM_cons, h a (by simp), mapM_some f g l (fun b hb => h b (by simp [hb]))]
    rfl
/-- a row of words, as data -/
def wordsD {H : Type} (l : List Int) : DataW H := .agg (l.map fun x => .lit (.int .u64 x))

section
variable {H : Type} {enc : TypeId × Value → H} {P : Program} {w : World} {base : Nat} {spare : Nat → Bool} {held : Bool}
theorem open_words {r : Reach} {b0 : Nat} {t e : TypeId} {n : Nat} {v : Value} {d : DataW H} {ps : List MemPlace} (ht : P.underlying t = some (.array n e)) (he : P.underlying e = some (.int .u64)) (hc : P.cellsOf t = n) (hce : P.cellsOf e = 1)
    (hval : Value.okWide P w r b0 t v) (hd : DataW.Trod enc P w base spare held t v d ps) :
    ∃ l : List Int, v = .agg (cs l) ∧ d = wordsD l ∧ ps = [] ∧ l.length = n ∧ ∀ x ∈ l, (Lit.int .u64 x).wf = true := by
  obtain ⟨c, rfl, hsz, _⟩ : ∃ c, v = .agg c ∧ c.size = P.cellsOf t ∧ Row.okWide P w r b0 t c := by
    cases v <;> simp [Value.okWide, ht] at hval
    exact ⟨_, rfl, hval⟩
  rw [hc] at hsz
  obtain ⟨fuel, hf⟩ := hd
  obtain ⟨xs, m, _, hx, _, hl, hel⟩ := DataW.trod_array ht hf
  simp only [Value.cells, hce, Nat.mul_one] at hel
  have hk : ∀ i, i < n → ∃ z, c[i]? = some (.int .u64 z) ∧ xs[i]? = some (.lit (.int .u64 z), []) ∧ (Lit.int .u64 z).wf = true := by
    intro i hi
    have h1 := hel i hi
    obtain ⟨y, hy⟩ : ∃ y, xs[i]? = some y := ⟨xs[i], List.getElem?_eq_getElem (by omega)⟩
    rw [hy] at h1
    obtain ⟨z, e1, e2, e3⟩ := DataW.trod_int he h1
    refine ⟨z, ?_, by rw [hy, e2], e3⟩
    have : ((c.toList.drop i).take 1)[0]? = some (.int .u64 z) := by rw [e1]; rfl
    rw [List.getElem?_take, List.getElem?_drop] at this
    simpa using this
  refine ⟨(List.range n).map fun i => numOf ((c[i]?).getD undef), ?_, ?_, ?_, by simp, ?_⟩
  · congr 1
    apply Array.ext_getElem?
    intro i
    by_cases hi : i < n
    · obtain ⟨z, h1, _, _⟩ := hk i hi
      simp [cs, h1, hi, numOf]
    · rw [Array.getElem?_eq_none (by omega), Array.getElem?_eq_none (by simp [cs]; omega)]
  · have hd' : d = DataW.agg (xs.map (·.1)) := by have := congrArg Prod.fst hx; exact this
    rw [hd']
    unfold wordsD
    congr 1
    apply List.ext_getElem?
    intro i
    by_cases hi : i < n
    · obtain ⟨z, h1, h2, _⟩ := hk i hi
      simp [h1, h2, hi, numOf]
    · rw [List.getElem?_eq_none (by simp; omega), List.getElem?_eq_none (by simp; omega)]
  · have hp : ps = xs.flatMap (·.2) := congrArg Prod.snd hx
    rw [hp]
    apply List.flatMap_eq_nil_iff.2
    intro y hy
    obtain ⟨i, hi, rfl⟩ := List.getElem_of_mem hy
    obtain ⟨z, _, h2, _⟩ := hk i (by omega)
    rw [List.getElem?_eq_getElem hi] at h2
    simp at h2
    rw [h2]
  · intro x hx
    simp only [List.mem_map, List.mem_range] at hx
    obtain ⟨i, hi, rfl⟩ := hx
    obtain ⟨z, h1, _, h3⟩ := hk i hi
    rw [h1]; exact h3
theorem shut_words {t e : TypeId} {n : Nat} {l : List Int} (ht : P.underlying t = some (.array n e)) (he : P.underlying e = some (.int .u64)) (hc : P.cellsOf t = n) (hce : P.cellsOf e = 1)
    (hl : l.length = n) (hw : ∀ x ∈ l, (Lit.int .u64 x).wf = true) : DataW.Trod enc P w base spare held t (.agg (cs l)) (wordsD l) [] := by
  refine ⟨2, ?_⟩
  unfold DataW.trod
  rw [ht]
  simp only [Value.cells, hce, Nat.mul_one, hc]
  have hlen : (cs l).toList.length = n := by simp [cs, hl]
  rw [if_pos hlen]
  rw [mapM_some _ (fun i => (DataW.lit (.int .u64 (l.getD i 0)), [])) (List.range n) ?_]
  · simp only [Option.map_some, List.map_map]
    congr 2
    · unfold wordsD
      congr 1
      apply List.ext_getElem?
      intro i
      by_cases hi : i < n
      · simp [hi, hl]
      · rw [List.getElem?_eq_none (by simp; omega), List.getElem?_eq_none (by simp; omega)]
    · simp
  · intro i hi
    have hi' : i < l.length := by rw [hl]; simpa using hi
    have e1 : ((cs l).toList.drop i).take 1 = [.int .u64 l[i]] := by
      simp only [cs]
      rw [List.drop_eq_getElem_cons (by simpa using hi')]
      simp
    rw [e1]
    have := hw l[i] (List.getElem_mem hi')
    simp [DataW.trod, he, this, hi']
end
/-- WHAT A LAW OWES AT ITS END: it answered true, made new blocks alone, and its arguments read as they did. -/
theorem law_post {H : Type} {enc : TypeId × Value → H} {P : Program} {f : Func} {s : ChangeSpec} {apart fresh handsOn again : Bool} {W W' : World} {args : Array Value} {ds : List (DataW H)} {ps : List MemPlace} {t : TypeId}
    (hW : DataW.Whole enc P f.params.toList s.vars apart W args.toList ds [] ps) (hb : Below W.heap.size W W') (hf : f.resultTypes = #[t]) (ht : P.underlying t = some .bool) (hv : s.vars = [])
    (hfn : s.fn H (ds ++ []) = { results := [.lit (.bool true)], args := ds, vars := [] })
    (hargs : ∀ sp : Nat → Bool, (∀ p ∈ ps, sp p.block = true) → DataW.TrodAll enc P W' 0 sp true f.params.toList args.toList ds ps) : s.post enc P f apart fresh handsOn again W args (.bool true) W' := by
  have old : ∀ p ∈ ps, p.block < W.heap.size := fun p hp => hW.lt p hp
  have lis : ((Value.bool true).resultList f.resultTypes.size) = [.bool true] := by rw [hf]; rfl
  have res : ∀ (b : Nat) (sp : Nat → Bool) (hd : Bool), DataW.TrodAll enc P W' b sp hd f.resultTypes.toList ((Value.bool true).resultList f.resultTypes.size) (s.fn H (ds ++ [])).results [] := by
    intro b sp hd
    rw [lis, hf, hfn]
    exact trodAll_cons_mk (shut_bool ht true) trodAll_mk0
  have arg : ∀ sp : Nat → Bool, (∀ p ∈ ps, sp p.block = true) → DataW.TrodAll enc P W' 0 sp true f.params.toList args.toList (s.fn H (ds ++ [])).args ps := by
    intro sp hsp; rw [hfn]; exact hargs sp hsp
  have var : ∀ sp : Nat → Bool, DataW.TrodVars enc P W' sp s.vars (s.fn H (ds ++ [])).vars [] := by
    intro sp; rw [hfn, hv]; rfl
  have ok : ∀ (j : Nat) (u : TypeId) (r : Value), f.resultTypes[j]? = some u → ((Value.bool true).resultList f.resultTypes.size)[j]? = some r → Value.okWide P W' .any 0 u r := by
    intro j u r h1 h2
    rw [lis] at h2
    rw [hf] at h1
    cases j with
    | zero => simp at h1 h2; subst h1 h2; exact okWide_bool_mk ht _
    | succ j => simp at h2
  have hin : ∀ p, p ∈ ([] : List MemPlace) ++ ps ++ [] ↔ p ∈ ps := by simp
  obtain ⟨w1, w2, w3, w4, w5, fro, nod⟩ := hW
  have hW2 : DataW.Whole enc P f.params.toList s.vars apart W args.toList ds [] ps := ⟨w1, w2, w3, w4, w5, fro, nod⟩
  refine ⟨ds, [], ps, [], ps, [], hW2, res _ _ _, arg _ (fun p hp => by simpa using old p hp), var _, World.keptBut_mono (fun p hp => ⟨hp, Or.inr (Or.inl hp)⟩) (hb.frame (· ∈ ps)), fun _ => ⟨ok, _, _, ([] ++ ps) ++ [], ⟨[] ++ ps, [], trodAll_append (arg _ (fun _ _ => rfl)) (res _ _ _), var _, rfl, ?_, ?_⟩, ?_⟩⟩
  · intro b off hp
    have hp' := (hin _).1 hp
    rw [hb.frozen (old _ hp')]
    exact fro b off hp'
  · intro ha
    simpa using nod ha
  · intro p hp _
    simpa using hp
end Go.Proofs.Ytfhcgnkjncfeiaa
