/-
  A statement whose order is open: by an invariant of what has come up, of the slots and of the world.
-/
import Derived.Orders
import Derived.RegionTactic
namespace Go.Proofs.Ythflfafenehofaa

/-- Each operation waits for earlier ones alone. -/
def forwardB (ops : Array Oper) : Bool := (List.range ops.size).all fun i => ((ops[i]?).map fun o => o.after.all fun e => decide (e.on < i)).getD true

section
variable {P : Program} {ops : Array Oper} {Q : Exit → Act → World → Prop}

def falses (l : Array Bool) : Nat := (l.toList.filter (fun b => !b)).length
theorem filter_set_lt : ∀ (l : List Bool) (i : Nat), l[i]? = some false → ((l.set i true).filter (fun b => !b)).length + 1 = (l.filter (fun b => !b)).length
  | [], i, h => by simp at h
  | x :: l, 0, h => by
    obtain rfl : x = false := by simpa using h
    simp
  | x :: l, i + 1, h => by
    have := filter_set_lt l i (by simpa using h)
    cases x <;> simp [this]
theorem falses_set {l : Array Bool} {i : Nat} (h : l[i]? = some false) : falses (l.setIfInBounds i true) + 1 = falses l := by
  unfold falses
  rw [Array.toList_setIfInBounds]
  exact filter_set_lt _ _ (by simpa using h)
theorem falses_zero {l : Array Bool} (h : falses l = 0) {i : Nat} (hi : i < l.size) : l[i]? = some true := by
  unfold falses at h
  have h2 := List.filter_eq_nil_iff.1 (List.eq_nil_of_length_eq_zero h) l[i] (by simp)
  rw [Array.getElem?_eq_getElem hi]
  simpa using h2

theorem ready_false {l : Array Bool} {i : Nat} (h : i ∈ Region.ready .any ops l) : l[i]? = some false := by
  have h0 := (mem_ready.1 h).1
  cases e : l[i]? with
  | none => rw [Array.getD_eq_getD_getElem?, e] at h0; simp at h0
  | some b => rw [Array.getD_eq_getD_getElem?, e] at h0; simp at h0; rw [h0]
theorem ready_after {l : Array Bool} {i : Nat} {o : Oper} (h : i ∈ Region.ready .any ops l) (ho : ops[i]? = some o) {e : Edge} (he : e ∈ o.after) (hb : Region.binds .any e = true) : l[e.on]? = some true := by
  obtain ⟨_, o', ho', hall⟩ := mem_ready.1 h
  rw [ho] at ho'; cases ho'
  have h1 := hall e he hb
  cases e2 : l[e.on]? with
  | none => rw [Array.getD_eq_getD_getElem?, e2] at h1; simp at h1
  | some b => rw [Array.getD_eq_getD_getElem?, e2] at h1; simp at h1; rw [h1]

def depB (ops : Array Oper) (i j : Nat) : Bool := ((ops[i]?).map fun o => o.after.any fun e => e.on == j && Region.binds .any e).getD false
theorem ready_dep {l : Array Bool} {i : Nat} (h : i ∈ Region.ready .any ops l) (j : Nat) (hd : depB ops i j = true) : l[j]? = some true := by
  obtain ⟨_, o, ho, _⟩ := mem_ready.1 h
  unfold depB at hd
  rw [ho] at hd
  have h1 : (o.after.any fun e => e.on == j && Region.binds .any e) = true := hd
  obtain ⟨e, he, hb⟩ := Array.any_eq_true'.1 h1
  simp only [Bool.and_eq_true, beq_iff_eq] at hb
  rw [← hb.1]
  exact ready_after h ho he hb.2

/-- Where nothing may come up all has come up. -/
theorem all_listed (hf : forwardB ops = true) {l : Array Bool} (hl : l.size = ops.size) (h : Region.ready .any ops l = []) : ∀ i, i < ops.size → l[i]? = some true := by
  have key : ∀ n i, i < n → i < ops.size → l[i]? = some true := by
    intro n
    induction n with
    | zero => intro i h0; omega
    | succ n ih =>
      intro i hi his
      cases e : l[i]? with
      | none => rw [Array.getElem?_eq_none_iff] at e; omega
      | some b =>
        cases b with
        | true => rfl
        | false =>
          have hm : i ∈ Region.ready .any ops l := by
            refine mem_ready.2 ⟨by rw [Array.getD_eq_getD_getElem?, e]; rfl, ops[i], Array.getElem?_eq_getElem his, fun ed hed _ => ?_⟩
            have h1 := List.all_eq_true.1 hf i (List.mem_range.2 his)
            rw [Array.getElem?_eq_getElem his] at h1
            have h1' : (ops[i].after.all fun e => decide (e.on < i)) = true := h1
            have h2 := Array.all_eq_true_iff_forall_mem.1 h1' ed hed
            have h3 : ed.on < i := by simpa using h2
            have h4 := ih ed.on (by omega) (by omega)
            rw [Array.getD_eq_getD_getElem?, h4]; rfl
          rw [h] at hm; cases hm
  intro i hi
  exact key (i + 1) i (by omega) hi

/-- The law. -/
theorem region_inv {id : Nat} {a : Act} {w : World} (N : Nat) (hm : P.follows .mixedOrders = true) (hN : ops.size = N) (hf : forwardB ops = true) (Inv : Array Bool → Act → World → Prop)
    (h0 : Inv (Array.replicate N false) a w.drew)
    (hstep : ∀ (i : Nat) (l : Array Bool) (a : Act) (w : World), i < N → i ∈ Region.ready .any ops l → Inv l a w → ∀ K : Act → World → Prop, (∀ a' w', Inv (l.setIfInBounds i true) a' w' → K a' w') → wpOp P ops Q i K a w)
    (hend : ∀ (l : Array Bool) (a : Act) (w : World), (∀ i, i < N → l[i]? = some true) → Inv l a w → Q .normal a w) : (Code.region id ops true).wp P Q a w := by
  subst hN
  refine wp_region_any hm ?_
  have key : ∀ (f : Nat) (l : Array Bool) (a : Act) (w : World), l.size = ops.size → falses l = f → Inv l a w → wpAny P .any ops Q f l a w := by
    intro f
    induction f with
    | zero =>
      intro l a w hl hc hi
      have hall : ∀ i, i < ops.size → l[i]? = some true := fun i h => falses_zero hc (by omega)
      refine ⟨?_, hend l a w hall hi⟩
      cases hr : Region.ready .any ops l with
      | nil => rfl
      | cons j rs =>
        have hj : j ∈ Region.ready .any ops l := by rw [hr]; simp
        have := ready_false hj
        obtain ⟨_, o, ho, _⟩ := mem_ready.1 hj
        rw [hall j (Array.getElem?_eq_some_iff.1 ho).1] at this
        cases this
    | succ f ih =>
      intro l a w hl hc hi
      refine ⟨fun hr => hend l a w (all_listed hf hl hr) hi, fun i hir => ?_⟩
      obtain ⟨_, o, ho, _⟩ := mem_ready.1 hir
      refine hstep i l a w (Array.getElem?_eq_some_iff.1 ho).1 hir hi _ fun a' w' h' => ih _ a' w' (by simpa using hl) ?_ h'
      have := falses_set (ready_false hir)
      omega
  refine key ops.size _ a w.drew (by simp) ?_ h0
  simp [falses]

/-- Slots written, one behind the other. -/
def putsFrom (a : Act) : List Nat → Nat → (Nat → Value) → Act
  | [], _, _ => a
  | s :: r, k, v => putsFrom (a.put (some s) (v k)) r (k + 1) v
def upd (v : Nat → Value) (i : Nat) (u : Value) : Nat → Value := fun j => if j = i then u else v j
theorem upd_same (v : Nat → Value) (i : Nat) (u : Value) : upd v i u i = u := if_pos rfl
theorem upd_other (v : Nat → Value) {i j : Nat} (u : Value) (h : j ≠ i) : upd v i u j = v j := if_neg h

theorem put_self (a : Act) (s : Nat) : a.put (some s) (a.tmps.getD s undef) = a := by
  unfold Act.put
  have e : a.tmps.setIfInBounds s (a.tmps.getD s undef) = a.tmps := by
    apply Array.ext
    · simp
    · intro i h1 h2
      by_cases e : s = i
      · subst e; simp [h2]
      · rw [Array.getElem_setIfInBounds_ne (h := e)]
  cases a
  simp_all
theorem putsFrom_self (a : Act) : ∀ (slots : List Nat) (k : Nat) (v : Nat → Value), (∀ j, j < slots.length → v (k + j) = a.tmps.getD (slots.getD j 0) undef) → putsFrom a slots k v = a
  | [], _, _, _ => rfl
  | s :: r, k, v, h => by
    have h0 : v k = a.tmps.getD s undef := h 0 (by simp)
    unfold putsFrom
    rw [h0, put_self]
    refine putsFrom_self a r (k + 1) v fun j hj => ?_
    have := h (j + 1) (by simpa using hj)
    rw [show k + 1 + j = k + (j + 1) from by omega]
    simpa using this

theorem region_inv2 {id : Nat} {a : Act} {w : World} (N : Nat) (slots : List Nat) (hm : P.follows .mixedOrders = true) (hN : ops.size = N) (hf : forwardB ops = true) (C : Array Bool → (Nat → Value) → World → Prop)
    (h0 : ∀ v, C (Array.replicate N false) v w.drew)
    (hstep : ∀ (i : Nat) (l : Array Bool) (v : Nat → Value) (w' : World), i < N → i ∈ Region.ready .any ops l → C l v w' →
      ∀ K : Act → World → Prop, (∀ u w'', C (l.setIfInBounds i true) (upd v i u) w'' → K (putsFrom a slots 0 (upd v i u)) w'') → wpOp P ops Q i K (putsFrom a slots 0 v) w')
    (hend : ∀ (l : Array Bool) (v : Nat → Value) (w' : World), (∀ i, i < N → l[i]? = some true) → C l v w' → Q .normal (putsFrom a slots 0 v) w') : (Code.region id ops true).wp P Q a w := by
  refine region_inv N hm hN hf (fun l a' w' => ∃ v, a' = putsFrom a slots 0 v ∧ C l v w') ⟨fun k => a.tmps.getD (slots.getD k 0) undef, ?_, h0 _⟩ ?_ ?_
  · exact (putsFrom_self a slots 0 _ fun j _ => by rw [Nat.zero_add]).symm
  · rintro i l a' w' hi hr ⟨v, rfl, hc⟩ K hK
    exact hstep i l v w' hi hr hc K fun u w'' h => hK _ _ ⟨_, rfl, h⟩
  · rintro l a' w' hall ⟨v, rfl, hc⟩
    exact hend l v w' hall hc

/-- What is listed behind a step. -/
theorem listed_set {l : Array Bool} {i j : Nat} (h : (l.setIfInBounds i true)[j]? = some true) (hne : j ≠ i) : l[j]? = some true := by
  rwa [Array.getElem?_setIfInBounds_ne (Ne.symm hne)] at h
theorem region_inv3 {id : Nat} {a : Act} {w : World} (N : Nat) (slots : List Nat) (hm : P.follows .mixedOrders = true) (hN : ops.size = N) (hf : forwardB ops = true) (C : Array Bool → (Nat → Value) → World → Prop)
    (h0 : ∀ v, C (Array.replicate N false) v w.drew)
    (hstep : ∀ (i : Nat) (l : Array Bool) (v : Nat → Value) (w' : World), i < N → i ∈ Region.ready .any ops l → (∀ j k, l[j]? = some true → depB ops j k = true → l[k]? = some true) → C l v w' →
      ∀ K : Act → World → Prop, (∀ u w'', C (l.setIfInBounds i true) (upd v i u) w'' → K (putsFrom a slots 0 (upd v i u)) w'') → wpOp P ops Q i K (putsFrom a slots 0 v) w')
    (hend : ∀ (l : Array Bool) (v : Nat → Value) (w' : World), (∀ i, i < N → l[i]? = some true) → C l v w' → Q .normal (putsFrom a slots 0 v) w') : (Code.region id ops true).wp P Q a w := by
  refine region_inv2 N slots hm hN hf (fun l v w' => (∀ j k, l[j]? = some true → depB ops j k = true → l[k]? = some true) ∧ C l v w') (fun v => ⟨fun j k hj => ?_, h0 v⟩) ?_ ?_
  · rw [Array.getElem?_replicate] at hj
    split at hj <;> cases hj
  · rintro i l v w' hi hr ⟨hcl, hc⟩ K hK
    refine hstep i l v w' hi hr hcl hc K fun u w'' h => hK u w'' ⟨fun j k hj hd => ?_, h⟩
    have hls : i < l.size := (Array.getElem?_eq_some_iff.1 (ready_false hr)).1
    have hk : l[k]? = some true := by
      by_cases e : j = i
      · subst e; exact ready_dep hr k hd
      · exact hcl j k (listed_set hj e) hd
    by_cases e : k = i
    · subst e; simp [hls]
    · rw [Array.getElem?_setIfInBounds_ne (Ne.symm e)]; exact hk
  · rintro l v w' hall ⟨_, hc⟩
    exact hend l v w' hall hc
end

end Go.Proofs.Ythflfafenehofaa
