/-
  Plain laws: a row of nodes each behind the last one; its path, its rows, how it goes.
-/
import Derived.Test.YthflfafenehofaaW7
namespace Go.Proofs.Ythflfafenehofaa

/-- A row of nodes, from the first, lies in a chain's state: each behind the last one. -/
def Rowy (M : CS) (L : List CN) : Prop := ∀ (j : Nat) (n : CN), L[j]? = some n → cget M j = some n ∧ n.prev = (j : Int) - 1

theorem Rowy.front {M : CS} {L : List CN} {n : CN} (h : Rowy M (L ++ [n])) : Rowy M L := fun j m hj =>
  h j m (by rw [List.getElem?_append_left (List.getElem?_eq_some_iff.1 hj).1]; exact hj)
theorem Rowy.last {M : CS} {L : List CN} {n : CN} (h : Rowy M (L ++ [n])) : cget M L.length = some n ∧ n.prev = (L.length : Int) - 1 := h L.length n (by simp)

theorem cget_neg (M : CS) : cget M (-1) = none := by unfold cget; rw [if_neg (by omega)]

theorem snoc_ind {α : Type} {P : List α → Prop} (h0 : P []) (h1 : ∀ l a, P l → P (l ++ [a])) : ∀ l, P l := by
  intro l
  have : ∀ l, P (List.reverse l) := by
    intro l
    induction l with
    | nil => exact h0
    | cons a l ih => rw [List.reverse_cons]; exact h1 _ _ ih
  have h := this l.reverse
  rwa [List.reverse_reverse] at h

theorem Rowy.path {M : CS} : ∀ {L : List CN}, Rowy M L → Path M ((L.length : Int) - 1) L.reverse := by
  intro L
  induction L using snoc_ind with
  | h0 => intro _; exact .nil (by simpa using cget_neg M)
  | h1 L n ih =>
    intro h
    obtain ⟨h1, h2⟩ := h.last
    rw [List.reverse_append, List.reverse_cons, List.reverse_nil, List.nil_append, List.singleton_append, List.length_append, List.length_singleton]
    rw [show ((L.length + 1 : Nat) : Int) - 1 = (L.length : Int) from by omega]
    refine .cons h1 ?_
    rw [h2]
    exact ih h.front

theorem cnt_set_none' {M : CS} {k : Int} {n : CN} (h : cget M k = some n) : cnt (M.set k.toNat none) + 1 = cnt M := by
  obtain ⟨_, _, h2⟩ := cget_some h
  have := cnt_set_none M k.toNat n h2
  omega

theorem Rowy.drops : ∀ {L : List CN} {M : CS}, Rowy M L → (∀ n ∈ L, n.count ≤ 1) →
    ∃ M', Drops M ((L.length : Int) - 1) (L.reverse.map fun n => (n.slot, n.gen)) M' ∧ M'.length = M.length ∧ (∀ k, cget M' k = if 0 ≤ k ∧ k < L.length then none else cget M k) ∧ cnt M' + L.length = cnt M := by
  intro L
  induction L using snoc_ind with
  | h0 =>
    intro M _ _
    refine ⟨M, .stop (by simpa using cget_neg M), rfl, fun k => ?_, rfl⟩
    rw [if_neg (by simp)]
  | h1 L n ih =>
    intro M h hc
    obtain ⟨h1, h2⟩ := h.last
    have hR : Rowy (M.set (L.length : Int).toNat none) L := fun j m hj => by
      obtain ⟨g1, g2⟩ := h.front j m hj
      refine ⟨?_, g2⟩
      rw [cget_set h1, if_neg (by have := (List.getElem?_eq_some_iff.1 hj).1; omega)]
      exact g1
    obtain ⟨M', d1, d2, d3, d4⟩ := ih hR (fun m hm => hc m (by simp [hm]))
    rw [← h2] at d1
    have hcn := hc n (by simp)
    rw [List.reverse_append, List.reverse_cons, List.reverse_nil, List.nil_append, List.singleton_append, List.map_cons, List.length_append, List.length_singleton]
    rw [show ((L.length + 1 : Nat) : Int) - 1 = (L.length : Int) from by omega]
    refine ⟨M', .gone h1 hcn d1, by rw [d2, List.length_set], fun k => ?_, ?_⟩
    · rw [d3 k, cget_set h1]
      by_cases e : k = L.length
      · subst e
        rw [if_neg (by omega), if_pos rfl, if_pos (by omega)]
      · rw [if_neg e]
        by_cases h0 : 0 ≤ k ∧ k < L.length
        · rw [if_pos h0, if_pos (by omega)]
        · rw [if_neg h0, if_neg (by omega)]
    · have := cnt_set_none' h1
      omega

/-! ### rows -/
def rowsOf (m : Nat) (P : List (Int × Int)) : List (List Int) := (List.range m).map fun (c : Nat) => (P.filter fun p => p.1 == (c : Int)).map (·.2)
theorem rowsOf_length (m : Nat) (P : List (Int × Int)) : (rowsOf m P).length = m := by simp [rowsOf]
theorem rowsOf_get (m : Nat) (P : List (Int × Int)) (i : Nat) (h : i < m) : (rowsOf m P)[i]? = some ((P.filter fun p => p.1 == (i : Int)).map (·.2)) := by
  simp [rowsOf, List.getElem?_range h]
theorem rowsOf_nil (m : Nat) : rowsOf m [] = List.replicate m [] := by
  apply List.ext_getElem?
  intro i
  by_cases h : i < m
  · rw [rowsOf_get m [] i h]; simp [h]
  · rw [List.getElem?_eq_none (by rw [rowsOf_length]; omega), List.getElem?_eq_none (by simp; omega)]
theorem rowsOf_cons (m : Nat) (P : List (Int × Int)) (c x : Int) (hc : 0 ≤ c) : rowsOf m ((c, x) :: P) = (rowsOf m P).modify c.toNat (x :: ·) := by
  apply List.ext_getElem?
  intro i
  rw [List.getElem?_modify]
  by_cases h : i < m
  · rw [rowsOf_get m _ i h, rowsOf_get m P i h, List.filter_cons]
    by_cases e : c = (i : Int)
    · subst e; simp
    · rw [if_neg (by simpa using e)]
      have h2 : ¬ c.toNat = i := by omega
      simp [h2]
  · rw [List.getElem?_eq_none (by rw [rowsOf_length]; omega), List.getElem?_eq_none (by rw [rowsOf_length]; omega)]; rfl
theorem rowsOf_snoc (m : Nat) (P : List (Int × Int)) (c x : Int) (hc : 0 ≤ c) : rowsOf m (P ++ [(c, x)]) = (rowsOf m P).modify c.toNat (· ++ [x]) := by
  apply List.ext_getElem?
  intro i
  rw [List.getElem?_modify]
  by_cases h : i < m
  · rw [rowsOf_get m _ i h, rowsOf_get m P i h, List.filter_append]
    by_cases e : c = (i : Int)
    · subst e; simp
    · rw [List.filter_cons, if_neg (by simpa using e)]
      have h2 : ¬ c.toNat = i := by omega
      simp [h2]
  · rw [List.getElem?_eq_none (by rw [rowsOf_length]; omega), List.getElem?_eq_none (by rw [rowsOf_length]; omega)]; rfl
theorem rowsOf_more (m : Nat) (P : List (Int × Int)) (h : ∀ p ∈ P, p.1 < (m : Int)) : rowsOf (m + 1) P = rowsOf m P ++ [[]] := by
  unfold rowsOf
  rw [List.range_succ, List.map_append]
  congr 1
  simp only [List.map_cons, List.map_nil]
  congr 1
  rw [List.filter_eq_nil_iff.2 (fun p hp => by have := h p hp; simp; omega)]
  rfl
/-- What Sets tells. -/
theorem setsS_eq (m : Nat) : ∀ xs : List CN, (∀ n ∈ xs, 0 ≤ n.cell) → setsS m xs = rowsOf m (xs.reverse.map fun n => (n.cell, n.num)) := by
  intro xs
  induction xs using snoc_ind with
  | h0 => intro _; simp [setsS, rowsOf_nil]
  | h1 xs n ih =>
    intro h
    rw [setsS_snoc, ih (fun m hm => h m (by simp [hm])), List.reverse_append, List.reverse_cons, List.reverse_nil, List.nil_append, List.singleton_append, List.map_cons, rowsOf_cons _ _ _ _ (h n (by simp))]
    rfl

end Go.Proofs.Ythflfafenehofaa
