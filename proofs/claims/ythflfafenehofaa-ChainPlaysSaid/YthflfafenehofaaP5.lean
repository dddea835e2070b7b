/-
  Plain laws: the paths of both chains.
-/
import Derived.Test.YthflfafenehofaaM8
import Derived.Test.YthflfafenehofaaW10
namespace Go.Proofs.Ythflfafenehofaa

def nk (n : CN) : Int × Int × Int × Int := (n.cell, n.num, n.slot, n.gen)
def rk (r : RN) : Int × Int × Int × Int := (r.cell, r.num, r.slot, r.gen)

theorem PathR.uniq {R : List RN} {k : Int} {xs ys : List RN} (h : PathR R k xs) (h2 : PathR R k ys) : xs = ys := by
  induction h generalizing ys with
  | nil h =>
    cases h2 with
    | nil _ => rfl
    | cons hr _ => omega
  | @cons j r xs hr h ih =>
    generalize hk : (j : Int) = k at h2
    cases h2 with
    | nil h => omega
    | @cons j' r' xs' hr' h' =>
      obtain rfl : j = j' := by omega
      rw [hr] at hr'; injection hr' with hr'; subst hr'
      rw [ih h']

theorem sim_path {M : CS} {R : List RN} (hs : Sim M R (-1)) : ∀ {k : Int} {ys : List RN}, PathR R k ys → (k = -1 ∨ isR R k = true) → ∃ xs, Path M k xs ∧ xs.map nk = ys.map rk := by
  intro k ys h
  induction h with
  | @nil k h =>
    intro hk
    rcases hk with rfl | hk
    · exact ⟨[], .nil (cget_neg M), rfl⟩
    · obtain ⟨j, rfl, _⟩ := isR_some hk
      omega
  | @cons j r xs hr h ih =>
    intro hk
    rcases hk with hk | hk
    · omega
    · rcases hs.get (j : Int) with ⟨h1, _⟩ | ⟨j', r', n, e, hr', hg, _, h2, e1, e2, e3, e4, e5, _⟩
      · rw [h1] at hk; cases hk
      · obtain rfl : j = j' := by omega
        rw [hr] at hr'; injection hr' with hr'; subst hr'
        have hprev : r.prev = -1 ∨ isR R r.prev = true := by
          rcases hs.prev j r hr with h3 | ⟨i, p, h3, _, hp, hpg, _⟩
          · exact .inl h3
          · right; rw [h3]; simp [isR, hp, hpg hg]
        obtain ⟨ns, hn, hm⟩ := ih hprev
        exact ⟨n :: ns, .cons h2 (by rw [e1]; exact hn), by simp [hm, nk, rk, e2, e3, e4, e5]⟩

theorem path_desc {M : CS} {R : List RN} (hs : Sim M R (-1)) : ∀ {k : Int} {ys : List RN}, PathR R k ys → (∀ r ∈ ys, 0 ≤ r.cell ∧ r.cell ≤ 5) ∧ (∀ (i j : Nat) (a b : RN), i ≤ j → ys[i]? = some a → ys[j]? = some b → b.cell ≤ a.cell) ∧ (ys.length : Int) ≤ (if 0 ≤ k then k + 1 else 0) := by
  intro k ys h
  induction h with
  | nil h => exact ⟨fun r hr => (by cases hr), fun i j a b _ h => (by simp at h), (by rw [if_neg (by omega)]; simp)⟩
  | @cons j r xs hr h ih =>
    obtain ⟨i1, i2, i3⟩ := ih
    have hc := hs.cell j r hr
    have hpj : r.prev < (j : Int) := by rcases hs.prev j r hr with h3 | ⟨i, p, h3, hlt, _⟩ <;> omega
    have hhead : ∀ b, xs[0]? = some b → b.cell ≤ r.cell := fun b hb => by
      generalize hpe : r.prev = kk at h
      cases h with
      | nil _ => simp at hb
      | @cons j' r' xs' hr' h' =>
        simp at hb; subst hb
        rcases hs.prev j r hr with h3 | ⟨i, p, h3, _, hp, _, hpc⟩
        · omega
        · obtain rfl : i = j' := by omega
          rw [hr'] at hp; injection hp with hp; subst hp
          exact hpc
    refine ⟨fun q hq => ?_, fun i j' a b hij ha hb => ?_, ?_⟩
    · rcases List.mem_cons.1 hq with rfl | hq
      · exact hc
      · exact i1 q hq
    · cases j' with
      | zero =>
        obtain rfl : i = 0 := by omega
        rw [ha] at hb; injection hb with hb; subst hb
        exact Int.le_refl _
      | succ j' =>
        have hb' : xs[j']? = some b := by simpa using hb
        cases i with
        | zero =>
          have ha' : r = a := by simpa using ha
          subst ha'
          obtain ⟨h0, hh0⟩ : ∃ h0, xs[0]? = some h0 := ⟨_, List.getElem?_eq_getElem (by have := (List.getElem?_eq_some_iff.1 hb').1; omega)⟩
          have := i2 0 j' h0 b (by omega) hh0 hb'
          have := hhead h0 hh0
          omega
        | succ i => exact i2 i j' a b (by omega) (by simpa using ha) hb'
    · rw [if_pos (by omega), List.length_cons]
      split at i3 <;> omega

theorem path_rise {M : CS} {R : List RN} (hs : Sim M R (-1)) {k : Int} {ys : List RN} (h : PathR R k ys) : Rise ys.reverse := by
  obtain ⟨h1, h2, _⟩ := path_desc hs h
  refine ⟨fun i r hr => h1 r (by have := List.mem_of_getElem? hr; simpa using this), fun i j a b hij ha hb => ?_⟩
  have hi := (List.getElem?_eq_some_iff.1 ha).1
  have hj := (List.getElem?_eq_some_iff.1 hb).1
  rw [List.length_reverse] at hi hj
  rw [List.getElem?_reverse hi] at ha
  rw [List.getElem?_reverse hj] at hb
  exact h2 _ _ b a (by omega) hb ha

/-- Both tell the same rows. -/
theorem rows_same {xs : List CN} {ys : List RN} (h : xs.map nk = ys.map rk) : xs.reverse.map (fun n => (n.cell, n.num)) = prR ys.reverse := by
  have e1 : xs.reverse.map (fun n => (n.cell, n.num)) = ((xs.map nk).map fun t => (t.1, t.2.1)).reverse := by rw [List.map_map, List.map_reverse]; rfl
  have e2 : prR ys.reverse = ((ys.map rk).map fun t => (t.1, t.2.1)).reverse := by unfold prR; rw [List.map_map, List.map_reverse]; rfl
  rw [e1, e2, h]
theorem refs_same {xs : List CN} {ys : List RN} (h : xs.map nk = ys.map rk) {i : Nat} {r : RN} (hi : ys[i]? = some r) : (xs.map refOf)[i]? = some (r.slot, r.gen) := by
  have e1 : xs.map refOf = (xs.map nk).map fun t => (t.2.2.1, t.2.2.2) := by rw [List.map_map]; rfl
  rw [e1, h, List.map_map, List.getElem?_map, hi]
  rfl
theorem mR_rev {ys : List RN} {r : RN} (h : ys[0]? = some r) : mR ys.reverse ys.length = (r.cell + 1).toNat := by
  have hl := (List.getElem?_eq_some_iff.1 h).1
  unfold mR
  rw [if_neg (by omega), List.getElem?_reverse (by omega), show ys.length - 1 - (ys.length - 1) = 0 from by omega, h]

end Go.Proofs.Ythflfafenehofaa
