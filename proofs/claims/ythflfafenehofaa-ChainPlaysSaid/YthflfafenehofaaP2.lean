/-
  Plain laws: the row of nodes that ChainDeep makes.
-/
import Derived.Test.YthflfafenehofaaP1
namespace Go.Proofs.Ythflfafenehofaa

/-- The nodes of the first numbers, each behind the last one. -/
structure RowOf (nums : List Int) (L : List CN) (cell : Nat) : Prop where
  at_ : ∀ (j : Nat) (n : CN), L[j]? = some n → n.prev = (j : Int) - 1 ∧ n.slot = j ∧ nums[j]? = some n.num ∧ 0 ≤ n.cell ∧ n.cell ≤ cell ∧ n.count = if j + 1 = L.length then 1 else 2
  last : ∀ n : CN, L[L.length - 1]? = some n → n.cell = cell
  nil_ : L = [] → cell = 0
def prs (L : List CN) : List (Int × Int) := L.map fun n => (n.cell, n.num)

theorem cget_map (L : List CN) (k : Int) : cget (L.map some) k = if 0 ≤ k then L[k.toNat]? else none := by
  unfold cget
  split
  · rw [List.getElem?_map]; cases L[k.toNat]? <;> rfl
  · rfl
theorem cget_map_nat (L : List CN) (j : Nat) : cget (L.map some) (j : Int) = L[j]? := by rw [cget_map, if_pos (by omega), Int.toNat_natCast]

theorem RowOf.nil (nums : List Int) : RowOf nums [] 0 := ⟨fun j n h => by simp at h, fun n h => by simp at h, fun _ => rfl⟩
theorem RowOf.first {nums : List Int} {x : Int} (hx : nums[0]? = some x) (b : Nat) (g : Int) : RowOf nums [⟨b, -1, 0, x, 0, g, 1⟩] 0 := by
  refine ⟨fun j n h => ?_, fun n h => ?_, fun h => by simp at h⟩
  · match j, h with
    | 0, h => simp at h; subst h; simp [hx]
  · simp at h; subst h; rfl
theorem RowOf.snoc {nums : List Int} {L : List CN} {cell : Nat} (h : RowOf nums L cell) {p : CN} (hp : L[L.length - 1]? = some p) (cell' : Nat) (hc : cell ≤ cell') {x : Int} (hx : nums[L.length]? = some x) (b : Nat) (g : Int) :
    RowOf nums (L.set (L.length - 1) { p with count := p.count + 1 } ++ [⟨b, (L.length : Int) - 1, cell', x, L.length, g, 1⟩]) cell' := by
  have hlt := (List.getElem?_eq_some_iff.1 hp).1
  refine ⟨fun j n hj => ?_, fun n hn => ?_, fun hn => by simp at hn⟩
  · rw [List.length_append, List.length_set, List.length_singleton]
    by_cases e : j < L.length
    · rw [List.getElem?_append_left (by simpa using e)] at hj
      by_cases e2 : L.length - 1 = j
      · subst e2
        rw [List.getElem?_set_self hlt] at hj
        injection hj with hj
        subst hj
        obtain ⟨h1, h2, h3, h4, h5, h6⟩ := h.at_ _ _ hp
        rw [if_pos (by omega)] at h6
        rw [if_neg (by omega)]
        exact ⟨h1, h2, h3, h4, by dsimp only; omega, by dsimp only; omega⟩
      · rw [List.getElem?_set_ne e2] at hj
        obtain ⟨h1, h2, h3, h4, h5, h6⟩ := h.at_ _ _ hj
        rw [if_neg (by omega)] at h6
        rw [if_neg (by omega)]
        exact ⟨h1, h2, h3, h4, by omega, h6⟩
    · rw [List.getElem?_append_right (by simp; omega), List.length_set] at hj
      obtain rfl : j = L.length := by
        have := (List.getElem?_eq_some_iff.1 hj).1
        simp at this
        omega
      simp at hj
      subst hj
      simp [hx]
  · rw [List.length_append, List.length_set, List.length_singleton, List.getElem?_append_right (by simp), List.length_set] at hn
    simp at hn
    subst hn
    rfl
theorem prs_snoc (L : List CN) {p : CN} (hp : L[L.length - 1]? = some p) (q : CN) (v : Int) : prs (L.set (L.length - 1) { p with count := v } ++ [q]) = prs L ++ [(q.cell, q.num)] := by
  unfold prs
  rw [List.map_append, List.map_set]
  congr 1
  apply List.ext_getElem?
  intro i
  by_cases e : L.length - 1 = i
  · subst e
    rw [List.getElem?_set_self (by rw [List.length_map]; exact (List.getElem?_eq_some_iff.1 hp).1), List.getElem?_map, hp]
    rfl
  · rw [List.getElem?_set_ne e]
theorem prs_lt {nums : List Int} {L : List CN} {cell : Nat} (h : RowOf nums L cell) : ∀ p ∈ prs L, p.1 < ((cell + 1 : Nat) : Int) := by
  intro p hp
  obtain ⟨n, hn, rfl⟩ := List.mem_map.1 hp
  obtain ⟨j, hj⟩ := List.getElem?_of_mem hn
  have := h.at_ j n hj
  dsimp only
  omega

end Go.Proofs.Ythflfafenehofaa
