/-
  Plain laws for ChainCounts: once nothing is kept nothing is there.
-/
import Derived.Test.YthflfafenehofaaM5
namespace Go.Proofs.Ythflfafenehofaa

theorem all_gone {M : CS} {R : List RN} (h : Sim M R (-1)) (hz : ∀ (j : Nat) (r : RN), R[j]? = some r → r.kept = 0) : liveR R = 0 := by
  have key : ∀ (n j : Nat) (r : RN), R.length ≤ j + n → R[j]? = some r → r.gone = true := by
    intro n
    induction n with
    | zero =>
      intro j r hj hr
      have := (List.getElem?_eq_some_iff.1 hr).1
      omega
    | succ n ih =>
      intro j r hj hr
      cases hg : r.gone with
      | true => rfl
      | false =>
        exfalso
        have hp := h.pos j r hr hg (by omega)
        rw [hz j r hr] at hp
        have hk : 0 < (R.filter fun q => !q.gone && q.prev == (j : Int)).length := by unfold kidsR at hp; omega
        obtain ⟨q, hq⟩ := List.exists_mem_of_length_pos hk
        obtain ⟨hqR, hq2⟩ := List.mem_filter.1 hq
        simp at hq2
        obtain ⟨i, hi⟩ := List.getElem?_of_mem hqR
        have hij : j < i := by
          rcases h.prev i q hi with h3 | ⟨i2, p, h3, hlt, _⟩ <;> omega
        have := ih i q (by omega) hi
        rw [hq2.1] at this
        cases this
  unfold liveR
  rw [List.filter_eq_nil_iff.2, List.length_nil]
  intro r hr
  obtain ⟨j, hj⟩ := List.getElem?_of_mem hr
  simp [key R.length j r (by omega) hj]

/-- What is kept still, of a list: those ahead of id none, id so often, the others as before. -/
def keptAt (R R1 : List RN) (id : Nat) (k : Int) : Prop := R1.length = R.length ∧ ∀ (j : Nat) (r1 : RN), R1[j]? = some r1 → ∃ r, R[j]? = some r ∧ (r.gone = true → r1.gone = true) ∧ r1.kept = if j < id then 0 else if j = id then k else r.kept

theorem keptAt.start (R : List RN) {r : RN} (hr : R[0]? = some r) : keptAt R R 0 r.kept := ⟨rfl, fun j r1 hj => ⟨r1, hj, fun h => h, by
  by_cases e : j = 0
  · subst e; rw [hr] at hj; injection hj with hj; subst hj; simp
  · simp [e]⟩⟩
/-- What is kept still, at the head of the loop over ids. -/
def keptFrom (R R1 : List RN) (id : Nat) : Prop := R1.length = R.length ∧ ∀ (j : Nat) (r1 : RN), R1[j]? = some r1 → ∃ r, R[j]? = some r ∧ (r.gone = true → r1.gone = true) ∧ r1.kept = if j < id then 0 else r.kept
theorem keptFrom.start (R : List RN) : keptFrom R R 0 := ⟨rfl, fun j r1 hj => ⟨r1, hj, fun h => h, by simp⟩⟩
theorem keptFrom.at {R R1 : List RN} {id : Nat} (h : keptFrom R R1 id) {r : RN} (hr : R[id]? = some r) : keptAt R R1 id r.kept := ⟨h.1, fun j r1 hj => by
  obtain ⟨r0, h1, h2, h3⟩ := h.2 j r1 hj
  refine ⟨r0, h1, h2, ?_⟩
  rw [h3]
  by_cases e : j = id
  · subst e; rw [hr] at h1; injection h1 with h1; subst h1; simp
  · simp [e]⟩
theorem keptAt.next {R R1 : List RN} {id : Nat} (h : keptAt R R1 id 0) : keptFrom R R1 (id + 1) := ⟨h.1, fun j r1 hj => by
  obtain ⟨r0, h1, h2, h3⟩ := h.2 j r1 hj
  refine ⟨r0, h1, h2, ?_⟩
  rw [h3]
  by_cases e : j < id
  · rw [if_pos e, if_pos (by omega)]
  · rw [if_neg e]
    by_cases e2 : j = id
    · rw [if_pos e2, if_pos (by omega)]
    · rw [if_neg e2, if_neg (by omega)]⟩
theorem keptFrom.none {R R1 : List RN} (h : keptFrom R R1 R.length) : ∀ (j : Nat) (r : RN), R1[j]? = some r → r.kept = 0 := fun j r hj => by
  obtain ⟨r0, h1, _, h3⟩ := h.2 j r hj
  rw [h3, if_pos (List.getElem?_eq_some_iff.1 h1).1]
/-- One is let go. -/
theorem keptAt.drop {R R1 R2 : List RN} {id : Nat} {k : Int} {q : RN} {out : List (Int × Int)} (h : keptAt R R1 id k) (hq : R1[id]? = some q) (hd : DropsR (R1.set id { q with kept := q.kept - 1 }) id out R2) (hl : R2.length = R1.length) : keptAt R R2 id (k - 1) := by
  refine ⟨by rw [hl]; exact h.1, fun j r2 hj => ?_⟩
  obtain ⟨r1, h1, f1, _, _, _, _, _, f7⟩ := hd.same j r2 hj
  rcases set_get h1 with ⟨rfl, rfl, _⟩ | ⟨hne, h1'⟩
  · obtain ⟨r0, g1, g2, g3⟩ := h.2 j q hq
    refine ⟨r0, g1, fun hg => f7 (g2 hg), ?_⟩
    rw [f1]
    dsimp only
    rw [if_neg (by omega), if_pos rfl] at g3 ⊢
    omega
  · obtain ⟨r0, g1, g2, g3⟩ := h.2 j r1 h1'
    refine ⟨r0, g1, fun hg => f7 (g2 hg), ?_⟩
    rw [f1, g3]
    by_cases e : j < id
    · rw [if_pos e, if_pos e]
    · rw [if_neg e, if_neg e, if_neg hne, if_neg hne]

end Go.Proofs.Ythflfafenehofaa
