/- A law for regions that draw their order: an invariant that every operation keeps, whichever have run before it, holds at the end. -/
import Derived.Test.YtfhcgnkjncfeiaaChecked
import Derived.WalkKit
import Derived.Orders
namespace Go.Proofs.Ytfhcgnkjncfeiaa

/-- one more operation has run -/
def also (d : Nat → Bool) (i : Nat) : Nat → Bool := fun j => if j = i then true else d j
/-- the operations that must run ahead of one -/
def ahead (o : Oper) : List Nat := (o.after.toList.filter (Region.binds .any)).map (·.on)
/-- each operation waits for earlier ones alone -/
def ordered (ops : Array Oper) : Bool := (List.range ops.size).all fun i => ((ops[i]?).map fun o => (ahead o).all (· < i)).getD true

section
variable {P : Program} {Q : Exit → Act → World → Prop}

/-- one operation keeps the invariant -/
def Keeps (P : Program) (ops : Array Oper) (Q : Exit → Act → World → Prop) (I : (Nat → Bool) → Act → World → Prop) (i : Nat) (o : Oper) : Prop :=
  ∀ (d : Nat → Bool) (a : Act) (w : World), d i = false → (∀ j ∈ ahead o, d j = true) → I d a w →
    ∀ K : Act → World → Prop, (∀ a w, I (also d i) a w → K a w) → if Region.wanted o (yielded ops a.tmps) = true then o.wp P a w K Q else K (a.put o.dst undef) w
/-- all of a list do -/
def KeepsAll (P : Program) (ops : Array Oper) (Q : Exit → Act → World → Prop) (I : (Nat → Bool) → Act → World → Prop) : Nat → List Oper → Prop
  | _, [] => True
  | i, o :: l => Keeps P ops Q I i o ∧ KeepsAll P ops Q I (i + 1) l
theorem KeepsAll.at {ops : Array Oper} {I : (Nat → Bool) → Act → World → Prop} : ∀ {l : List Oper} {k : Nat}, KeepsAll P ops Q I k l → ∀ {i : Nat} {o : Oper}, l[i]? = some o → Keeps P ops Q I (k + i) o
  | [], _, _, i, o, h => by simp at h
  | x :: l, k, hk, 0, o, h => by simp at h; subst h; exact hk.1
  | x :: l, k, hk, i + 1, o, h => by
    have := KeepsAll.at hk.2 (i := i) (o := o) (by simpa using h)
    rw [show k + (i + 1) = k + 1 + i from by omega]
    exact this

/-- which have run -/
def ran (listed : Array Bool) (j : Nat) : Bool := listed.getD j true
theorem ran_set {listed : Array Bool} {i : Nat} (hi : i < listed.size) : ran (listed.setIfInBounds i true) = also (ran listed) i := by
  funext j
  unfold ran also
  by_cases h : j = i
  · subst h; simp [Array.getD, hi]
  · simp only [if_neg h, Array.getD, Array.size_setIfInBounds]
    split
    · exact Array.getElem_setIfInBounds_ne _ (Ne.symm h)
    · rfl

theorem mem_ready {ops : Array Oper} {listed : Array Bool} {i : Nat} : i ∈ Region.ready .any ops listed ↔ ∃ o, ops[i]? = some o ∧ ran listed i = false ∧ ∀ j ∈ ahead o, listed.getD j false = true := by
  unfold Region.ready ran ahead
  simp only [List.mem_filter, List.mem_range, Bool.and_eq_true, Bool.not_eq_true']
  constructor
  · rintro ⟨h1, h2, h3⟩
    refine ⟨ops[i], Array.getElem?_eq_getElem h1, h2, ?_⟩
    rw [Array.getElem?_eq_getElem h1] at h3
    simp only [Option.map_some, Option.getD_some, Array.all_eq_true'] at h3
    intro j hj
    simp only [List.mem_map, List.mem_filter] at hj
    obtain ⟨e, ⟨he, hb⟩, rfl⟩ := hj
    have := h3 e (by simpa using he)
    simpa [hb] using this
  · rintro ⟨o, h1, h2, h3⟩
    obtain ⟨hi, rfl⟩ := Array.getElem?_eq_some_iff.1 h1
    refine ⟨hi, h2, ?_⟩
    rw [h1]
    simp only [Option.map_some, Option.getD_some, Array.all_eq_true']
    intro e he
    cases hb : Region.binds .any e
    · rfl
    · have := h3 e.on (by simp only [List.mem_map, List.mem_filter]; exact ⟨e, ⟨by simpa using he, hb⟩, rfl⟩)
      simpa using this

theorem getD_of_ran {listed : Array Bool} {j : Nat} (hj : j < listed.size) (h : ran listed j = true) : listed.getD j false = true := by
  unfold ran at h
  simp only [Array.getD, hj] at h ⊢
  exact h
theorem ran_of_getD {listed : Array Bool} {j : Nat} (h : listed.getD j false = true) : ran listed j = true := by
  unfold ran
  by_cases hj : j < listed.size
  · simp only [Array.getD, hj] at h ⊢; exact h
  · simp [Array.getD, hj]

/-- where none is ready all have run -/
theorem ran_all {ops : Array Oper} {listed : Array Bool} (ho : ordered ops = true) (hs : listed.size = ops.size) (hr : Region.ready .any ops listed = []) (i : Nat) : ran listed i = true := by
  induction i using Nat.strongRecOn with
  | ind i ih =>
    by_cases hi : i < ops.size
    · cases h : ran listed i with
      | true => rfl
      | false =>
        exfalso
        have hm : i ∈ Region.ready .any ops listed := mem_ready.2 ⟨ops[i], Array.getElem?_eq_getElem hi, h, fun j hj => by
          have h1 := (List.all_eq_true.1 ho) i (List.mem_range.2 hi)
          rw [Array.getElem?_eq_getElem hi] at h1
          simp only [Option.map_some, Option.getD_some, List.all_eq_true, decide_eq_true_eq] at h1
          have h2 := h1 j hj
          exact getD_of_ran (by omega) (ih j h2)⟩
        rw [hr] at hm
        cases hm
    · unfold ran; simp [Array.getD, hs, hi]

theorem wpAny_keeps {ops : Array Oper} {I : (Nat → Bool) → Act → World → Prop} (ho : ordered ops = true) (hk : KeepsAll P ops Q I 0 ops.toList) (hend : ∀ a w, I (fun _ => true) a w → Q .normal a w) :
    ∀ (fuel : Nat) (listed : Array Bool) (a : Act) (w : World), listed.size = ops.size → (listed.toList.filter (!·)).length ≤ fuel → I (ran listed) a w → wpAny P .any ops Q fuel listed a w := by
  have done : ∀ (listed : Array Bool) (a : Act) (w : World), listed.size = ops.size → Region.ready .any ops listed = [] → I (ran listed) a w → Q .normal a w := by
    intro listed a w hs hr hI
    refine hend a w ?_
    have : ran listed = fun _ => true := funext (ran_all ho hs hr)
    rw [this] at hI
    exact hI
  intro fuel
  induction fuel with
  | zero =>
    intro listed a w hs hc hI
    have hr : Region.ready .any ops listed = [] := by
      cases h : Region.ready .any ops listed with
      | nil => rfl
      | cons x xs =>
        exfalso
        have hm : x ∈ Region.ready .any ops listed := by rw [h]; simp
        obtain ⟨o, h1, h2, _⟩ := mem_ready.1 hm
        have hx : x < listed.size := by rw [hs]; exact (Array.getElem?_eq_some_iff.1 h1).1
        have : listed[x] ∈ listed.toList.filter (!·) := by
          simp only [List.mem_filter]
          refine ⟨by simp, ?_⟩
          unfold ran at h2
          simp only [Array.getD, hx] at h2
          simpa using h2
        have := List.length_pos_of_mem this
        omega
    exact ⟨hr, done listed a w hs hr hI⟩
  | succ fuel ih =>
    intro listed a w hs hc hI
    refine ⟨fun hr => done listed a w hs hr hI, fun i hi => ?_⟩
    obtain ⟨o, h1, h2, h3⟩ := mem_ready.1 hi
    have hil : i < listed.size := by rw [hs]; exact (Array.getElem?_eq_some_iff.1 h1).1
    have hstep := (KeepsAll.at hk (i := i) (o := o) (by simpa using h1)) (ran listed) a w (by simpa using h2) (fun j hj => ran_of_getD (h3 j hj)) hI
    refine wpOp_step h1 fun K' hK' => ?_
    refine hstep K' fun a' w' hI' => hK' a' w' (ih _ _ _ (by simp [hs]) ?_ (by rw [ran_set hil]; simpa using hI'))
    have hset : (listed.setIfInBounds i true).toList = listed.toList.set i true := by simp
    rw [hset]
    have hfl : listed.toList[i]? = some false := by
      unfold ran at h2
      simp only [Array.getD, hil] at h2
      rw [Array.getElem?_toList, Array.getElem?_eq_getElem hil]
      simpa using h2
    have key : ∀ (l : List Bool) (i : Nat), l[i]? = some false → ((l.set i true).filter (!·)).length + 1 = (l.filter (!·)).length := by
      intro l
      induction l with
      | nil => intro i h; simp at h
      | cons x l ihl =>
        intro i h
        cases i with
        | zero => simp at h; subst h; simp
        | succ i =>
          simp at h
          have := ihl i h
          cases x <;> simp <;> simpa using this
    have := key _ _ hfl
    omega

/-- A REGION THAT DRAWS ITS ORDER, by an invariant. -/
theorem wp_region_keeps {id : Nat} {ops : Array Oper} {a : Act} {w : World} (hm : P.follows .mixedOrders = true) (ho : ordered ops = true) (I : (Nat → Bool) → Act → World → Prop)
    (h0 : I (fun j => decide (ops.size ≤ j)) a w.drew) (hk : KeepsAll P ops Q I 0 ops.toList) (hend : ∀ a w, I (fun _ => true) a w → Q .normal a w) : (Code.region id ops true).wp P Q a w := by
  refine wp_region_any hm (wpAny_keeps ho hk hend _ _ _ _ (by simp) ?_ ?_)
  · simp
  · have : ran (Array.replicate ops.size false) = fun j => decide (ops.size ≤ j) := by
      funext j; unfold ran
      by_cases h : j < ops.size
      · simp [Array.getD, h]
      · simp [Array.getD, h]; omega
    rw [this]; exact h0

/-! ### frames by their slots -/
/-- a frame of n slots -/
def actOf (n : Nat) (T : Nat → Value) : Act := ⟨((List.range n).map T).toArray, []⟩
/-- one slot written -/
def upd (T : Nat → Value) (s : Nat) (v : Value) : Nat → Value := fun j => if j = s then v else T j
theorem actOf_getD (n : Nat) (T : Nat → Value) (s : Nat) (h : s < n) : (actOf n T).tmps.getD s undef = T s := by
  simp [actOf, Array.getD, h]
theorem actOf_eval (n : Nat) (T : Nat → Value) (s : Nat) (h : s < n) : (actOf n T).eval (.tmp s) = T s := actOf_getD n T s h
theorem actOf_put (n : Nat) (T : Nat → Value) (s : Nat) (v : Value) (h : s < n) : (actOf n T).put (some s) v = actOf n (upd T s v) := by
  show (⟨_, _⟩ : Act) = ⟨_, _⟩
  congr 1
  show ((List.range n).map T).toArray.setIfInBounds s v = _
  apply Array.ext_getElem?
  intro j
  by_cases hj : j < n
  · by_cases hs : j = s
    · subst hs; simp [upd, hj]
    · rw [Array.getElem?_setIfInBounds_ne (Ne.symm hs)]; simp [upd, hj, hs]
  · rw [Array.getElem?_eq_none (by simp; omega), Array.getElem?_eq_none (by simp; omega)]
theorem actOf_put_none (n : Nat) (T : Nat → Value) (v : Value) : (actOf n T).put none v = actOf n T := rfl
theorem actOf_defers (n : Nat) (T : Nat → Value) : (actOf n T).defers = [] := rfl
/-- one operation keeps an invariant on slots -/
theorem keeps_of {ops : Array Oper} {n i : Nat} {o : Oper} {F : (Nat → Bool) → (Nat → Value) → World → Prop}
    (h : ∀ (d : Nat → Bool) (T : Nat → Value) (w : World), d i = false → (∀ j ∈ ahead o, d j = true) → F d T w → ∀ K : Act → World → Prop, (∀ T w, F (also d i) T w → K (actOf n T) w) →
      if Region.wanted o (yielded ops (actOf n T).tmps) = true then o.wp P (actOf n T) w K Q else K ((actOf n T).put o.dst undef) w) :
    Keeps P ops Q (fun d a w => ∃ T, a = actOf n T ∧ F d T w) i o := by
  rintro d a w hd ha ⟨T, rfl, hF⟩ K hK
  exact h d T w hd ha hF K fun T w hF => hK _ _ ⟨T, rfl, hF⟩
/-- the same, of an operation without a guard -/
theorem keeps_of' {ops : Array Oper} {n i : Nat} {o : Oper} {F : (Nat → Bool) → (Nat → Value) → World → Prop} (hg : o.guard = none)
    (h : ∀ (d : Nat → Bool) (T : Nat → Value) (w : World), d i = false → (∀ j ∈ ahead o, d j = true) → F d T w → ∀ K : Act → World → Prop, (∀ T w, F (also d i) T w → K (actOf n T) w) → o.wp P (actOf n T) w K Q) :
    Keeps P ops Q (fun d a w => ∃ T, a = actOf n T ∧ F d T w) i o := by
  refine keeps_of fun d T w hd ha hF K hK => ?_
  have : Region.wanted o (yielded ops (actOf n T).tmps) = true := by simp [Region.wanted, hg]
  rw [if_pos this]
  exact h d T w hd ha hF K hK

/-- what slots hold once their operations have run: (operation, slot, value) -/
def Facts (L : List (Nat × Nat × Value)) (d : Nat → Bool) (T : Nat → Value) : Prop := ∀ x ∈ L, d x.1 = true → T x.2.1 = x.2.2
theorem Facts.step {L : List (Nat × Nat × Value)} {d : Nat → Bool} {T : Nat → Value} (hF : Facts L d T) (i s : Nat) (v : Value) (h : ∀ x ∈ L, if x.1 = i then x.2.1 = s ∧ x.2.2 = v else x.2.1 ≠ s) : Facts L (also d i) (upd T s v) := by
  intro x hx hd
  have h1 := h x hx
  unfold also at hd; unfold upd
  by_cases hi : x.1 = i
  · rw [if_pos hi] at h1; rw [if_pos h1.1, h1.2]
  · rw [if_neg hi] at h1 hd; rw [if_neg h1]; exact hF x hx hd
theorem Facts.start {L : List (Nat × Nat × Value)} {T : Nat → Value} {n : Nat} (h : ∀ x ∈ L, x.1 < n) : Facts L (fun j => decide (n ≤ j)) T := by
  intro x hx hd
  have := h x hx
  simp only [decide_eq_true_eq] at hd
  omega
theorem Facts.run {L : List (Nat × Nat × Value)} {d : Nat → Bool} {T : Nat → Value} (hF : Facts L d T) (i : Nat) (h : ∀ x ∈ L, x.1 ≠ i) : Facts L (also d i) T := by
  intro x hx hd
  unfold also at hd
  rw [if_neg (h x hx)] at hd
  exact hF x hx hd
/-- what has run once something else has: (later, earlier) -/
def Ord (L : List (Nat × Nat)) (d : Nat → Bool) : Prop := ∀ x ∈ L, d x.1 = true → d x.2 = true
theorem Ord.step {L : List (Nat × Nat)} {d : Nat → Bool} (hO : Ord L d) (i : Nat) (h : ∀ x ∈ L, x.1 = i → d x.2 = true) : Ord L (also d i) := by
  intro x hx hd
  unfold also at hd ⊢
  by_cases h2 : x.2 = i
  · rw [if_pos h2]
  · rw [if_neg h2]
    by_cases h1 : x.1 = i
    · exact h x hx h1
    · rw [if_neg h1] at hd; exact hO x hx hd
theorem Ord.start {L : List (Nat × Nat)} {n : Nat} (h : ∀ x ∈ L, x.1 < n) : Ord L (fun j => decide (n ≤ j)) := by
  intro x hx hd
  have := h x hx
  simp only [decide_eq_true_eq] at hd
  omega
theorem Ord.not {L : List (Nat × Nat)} {d : Nat → Bool} (hO : Ord L d) {x y : Nat} (h : (x, y) ∈ L) (hy : d y = false) : d x = false := by
  cases hx : d x with
  | false => rfl
  | true => have := hO (x, y) h hx; simp only at this; rw [hy] at this; cases this

theorem actOf_size (n : Nat) (T : Nat → Value) : (actOf n T).tmps.size = n := by simp [actOf]
theorem actOf_get (n : Nat) (T : Nat → Value) (s : Nat) (h : s < (actOf n T).tmps.size) : (actOf n T).tmps[s] = T s := by simp [actOf]
theorem actOf_get? (n : Nat) (T : Nat → Value) (s : Nat) (h : s < n) : (actOf n T).tmps[s]? = some (T s) := by simp [actOf, h]
attribute [go_sem] actOf_size actOf_get actOf_get? actOf_getD actOf_eval actOf_put actOf_put_none actOf_defers
theorem actOf_self (a : Act) (n : Nat) (hn : a.tmps.size = n) (hd : a.defers = []) : a = actOf n fun s => a.tmps.getD s undef := by
  obtain ⟨t, df⟩ := a
  simp only at hn hd
  subst hd
  show (⟨_, _⟩ : Act) = ⟨_, _⟩
  congr 1
  apply Array.ext_getElem?
  intro j
  by_cases hj : j < n
  · simp [hj, Array.getD, hn, Array.getElem?_eq_getElem (hn ▸ hj : j < t.size)]
  · rw [Array.getElem?_eq_none (by omega), Array.getElem?_eq_none (by simp; omega)]
/-- A REGION THAT DRAWS ITS ORDER, by an invariant on the slots and the world. -/
theorem wp_region_slots {id : Nat} {ops : Array Oper} {a : Act} {w : World} (n : Nat) (F : (Nat → Value) → (Nat → Bool) → (Nat → Value) → World → Prop) (hm : P.follows .mixedOrders = true) (ho : ordered ops = true)
    (hn : a.tmps.size = n) (hd : a.defers = []) (h0 : F (fun s => a.tmps.getD s undef) (fun j => decide (ops.size ≤ j)) (fun s => a.tmps.getD s undef) w.drew)
    (hk : ∀ T0, KeepsAll P ops Q (fun d a w => ∃ T, a = actOf n T ∧ F T0 d T w) 0 ops.toList)
    (hend : ∀ T w', F (fun s => a.tmps.getD s undef) (fun _ => true) T w' → Q .normal (actOf n T) w') : (Code.region id ops true).wp P Q a w :=
  wp_region_keeps hm ho (fun d a' w' => ∃ T, a' = actOf n T ∧ F (fun s => a.tmps.getD s undef) d T w') ⟨_, actOf_self a n hn hd, h0⟩ (hk _) (by rintro _ w' ⟨T, rfl, hF⟩; exact hend T w' hF)
end
end Go.Proofs.Ytfhcgnkjncfeiaa
