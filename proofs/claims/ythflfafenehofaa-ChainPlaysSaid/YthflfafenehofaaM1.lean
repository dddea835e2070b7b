/-
  The document's chain in memory: a struct of one slice of nodes, each of seven cells.
-/
import Derived.Test.YthflfafenehofaaV1
import Derived.Maps.AppendAt
namespace Go.Proofs.Ythflfafenehofaa
open Go.RowKit

/-- A node of the document's chain. -/
structure RN where
  prev : Int
  cell : Int
  num : Int
  slot : Int
  gen : Int
  kept : Int
  gone : Bool

def rv (r : RN) : List Value := [.int .i64 r.prev, .int .i64 r.cell, .int .i64 r.num, .int .i64 r.slot, .int .i64 r.gen, .int .i64 r.kept, .bool r.gone]
def rnv (R : List RN) : List Value := R.flatMap rv
theorem rnv_length (R : List RN) : (rnv R).length = R.length * 7 := by
  induction R with
  | nil => rfl
  | cons a R ih => simp [rnv, rv] at ih ⊢; omega
theorem rnv_get : ∀ (R : List RN) (k f : Nat) (r : RN), R[k]? = some r → f < 7 → (rnv R)[k * 7 + f]? = (rv r)[f]?
  | [], k, f, r, h, _ => by simp at h
  | a :: R, 0, f, r, h, hf => by
    obtain rfl : a = r := by simpa using h
    have : f < (rv a).length := hf
    simp only [rnv, List.flatMap_cons]
    rw [Nat.zero_mul, Nat.zero_add, List.getElem?_append_left this]
  | a :: R, k + 1, f, r, h, hf => by
    have ih := rnv_get R k f r (by simpa using h) hf
    have hl : (rv a).length = 7 := rfl
    simp only [rnv, List.flatMap_cons] at ih ⊢
    rw [List.getElem?_append_right (by omega), hl, show (k + 1) * 7 + f - 7 = k * 7 + f from by omega, ih]
theorem rnv_snoc (R : List RN) (r : RN) : rnv (R ++ [r]) = rnv R ++ rv r := by simp [rnv]
theorem rnv_kept : ∀ (R : List RN) (k : Nat) (r : RN) (x : Int), R[k]? = some r → (rnv R).set (k * 7 + 5) (.int .i64 x) = rnv (R.set k { r with kept := x })
  | [], k, r, x, h => by simp at h
  | a :: R, 0, r, x, h => by
    obtain rfl : a = r := by simpa using h
    rfl
  | a :: R, k + 1, r, x, h => by
    have ih := rnv_kept R k r x (by simpa using h)
    have hl : (rv a).length = 7 := rfl
    simp only [rnv, List.flatMap_cons, List.set_cons_succ] at ih ⊢
    rw [List.set_append_right _ _ (by omega), hl, show (k + 1) * 7 + 5 - 7 = k * 7 + 5 from by omega, ih]
theorem rnv_gone : ∀ (R : List RN) (k : Nat) (r : RN) (x : Bool), R[k]? = some r → (rnv R).set (k * 7 + 6) (.bool x) = rnv (R.set k { r with gone := x })
  | [], k, r, x, h => by simp at h
  | a :: R, 0, r, x, h => by
    obtain rfl : a = r := by simpa using h
    rfl
  | a :: R, k + 1, r, x, h => by
    have ih := rnv_gone R k r x (by simpa using h)
    have hl : (rv a).length = 7 := rfl
    simp only [rnv, List.flatMap_cons, List.set_cons_succ] at ih ⊢
    rw [List.set_append_right _ _ (by omega), hl, show (k + 1) * 7 + 6 - 7 = k * 7 + 6 from by omega, ih]

/-- It lies at block m: its slice's value is v, from block B on. -/
structure IsRef (B : Nat) (W : World) (m : Nat) (v : Value) (R : List RN) : Prop where
  own : W.ownsRow B 51 7 v R.length (rnv R)
  blk : W.heap[m]? = some (.cells #[v] 45)
  ne : v.ownBlock ≠ some m
/-- Its blocks. -/
def YR (m : Nat) (v : Value) (b : Nat) : Prop := b = m ∨ v.ownBlock = some b

theorem IsRef.keep {B : Nat} {W W' : World} {m : Nat} {v : Value} {R : List RN} {X : Nat → Prop} (h : IsRef B W m v R) (k : Keep X W W') (hX : ∀ b, YR m v b → ¬ X b) : IsRef B W' m v R :=
  ⟨ownsRow_block h.own fun b hb => k.block b (h.own.lt b hb).2 (hX b (.inr hb)), (k.block m (blk_lt h.blk) (hX m (.inl rfl))).trans h.blk, h.ne⟩
theorem IsRef.below {B : Nat} {W W' : World} {m : Nat} {v : Value} {R : List RN} (h : IsRef B W m v R) (k : Below W.heap.size W W') : IsRef B W' m v R := h.keep (Keep.of_below k (fun _ => False)) fun _ _ f => f

/-- What its cells hold. -/
theorem IsRef.cells {B : Nat} {W : World} {m : Nat} {v : Value} {R : List RN} (h : IsRef B W m v R) :
    W.cell? ⟨m, 0, none⟩ = some v ∧ W.frozen? ⟨m, 0, none⟩ = false ∧ m < W.heap.size ∧ ((v = .slice none 0 0 ∧ R = []) ∨ ∃ g cap, v = .slice (some ⟨g, 0, none⟩) R.length cap ∧ B ≤ g ∧ g < W.heap.size ∧ g ≠ m ∧ (∀ i, W.frozen? ⟨g, i, none⟩ = false) ∧
      ∀ (k : Nat) (r : RN), R[k]? = some r → W.cell? ⟨g, k * 7, none⟩ = some (.int .i64 r.prev) ∧ W.cell? ⟨g, k * 7 + 1, none⟩ = some (.int .i64 r.cell) ∧ W.cell? ⟨g, k * 7 + 2, none⟩ = some (.int .i64 r.num) ∧
        W.cell? ⟨g, k * 7 + 3, none⟩ = some (.int .i64 r.slot) ∧ W.cell? ⟨g, k * 7 + 4, none⟩ = some (.int .i64 r.gen) ∧ W.cell? ⟨g, k * 7 + 5, none⟩ = some (.int .i64 r.kept) ∧ W.cell? ⟨g, k * 7 + 6, none⟩ = some (.bool r.gone)) := by
  refine ⟨blk_cell h.blk 0, blk_free h.blk 0, blk_lt h.blk, ?_⟩
  obtain ⟨hl, ⟨h1, h2⟩ | ⟨g, cap, cur, rfl, hg, hb, hc, hm, hs, ht⟩⟩ := h.own
  · exact .inl ⟨h1, List.eq_nil_of_length_eq_zero h2⟩
  · refine .inr ⟨g, cap, rfl, hg, blk_lt hb, fun e => h.ne (by rw [e]; rfl), fun i => blk_free hb i, fun k r hr => ?_⟩
    have hk := (List.getElem?_eq_some_iff.1 hr).1
    have key : ∀ f, f < 7 → W.cell? ⟨g, k * 7 + f, none⟩ = (rv r)[f]? := fun f hf => by
      rw [h.own.cellAt (k * 7 + f) (by omega)]
      exact rnv_get R k f r hr hf
    exact ⟨key 0 (by omega), key 1 (by omega), key 2 (by omega), key 3 (by omega), key 4 (by omega), key 5 (by omega), key 6 (by omega)⟩

/-- A cell of it is turned. -/
theorem ownsRow_set {W : World} {B : Nat} {e : TypeId} {size n g : Nat} {cap : Nat} {xs : List Value} (h : W.ownsRow B e size (.slice (some ⟨g, 0, none⟩) n cap) n xs) (i : Nat) (u : Value) :
    (W.setCell ⟨g, i, none⟩ u).ownsRow B e size (.slice (some ⟨g, 0, none⟩) n cap) n (xs.set i u) := by
  obtain ⟨hl, ⟨h1, _⟩ | ⟨g', cap', cur, h1, hg, hb, hc, hm, hs, ht⟩⟩ := h
  · cases h1
  · cases h1
    refine ⟨by rw [List.length_set]; exact hl, .inr ⟨g, cap, _, rfl, hg, blk_set hb i u, hc, hm, by rw [Array.size_setIfInBounds]; exact hs, ?_⟩⟩
    rw [Array.toList_setIfInBounds, List.take_set, ht]
theorem IsRef.setKept {B : Nat} {W : World} {m : Nat} {g cap n : Nat} {R : List RN} (hn : R.length = n) (h : IsRef B W m (.slice (some ⟨g, 0, none⟩) n cap) R) {k : Nat} {r : RN} (hr : R[k]? = some r) (x : Int) :
    IsRef B (W.setCell ⟨g, k * 7 + 5, none⟩ (.int .i64 x)) m (.slice (some ⟨g, 0, none⟩) n cap) (R.set k { r with kept := x }) := by
  subst hn
  refine ⟨?_, blk_far h.blk (fun e => h.ne (by rw [e]; rfl)) _ _, h.ne⟩
  rw [List.length_set, ← rnv_kept R k r x hr]
  exact ownsRow_set h.own _ _
theorem IsRef.setGone {B : Nat} {W : World} {m : Nat} {g cap n : Nat} {R : List RN} (hn : R.length = n) (h : IsRef B W m (.slice (some ⟨g, 0, none⟩) n cap) R) {k : Nat} {r : RN} (hr : R[k]? = some r) (x : Bool) :
    IsRef B (W.setCell ⟨g, k * 7 + 6, none⟩ (.bool x)) m (.slice (some ⟨g, 0, none⟩) n cap) (R.set k { r with gone := x }) := by
  subst hn
  refine ⟨?_, blk_far h.blk (fun e => h.ne (by rw [e]; rfl)) _ _, h.ne⟩
  rw [List.length_set, ← rnv_gone R k r x hr]
  exact ownsRow_set h.own _ _

end Go.Proofs.Ythflfafenehofaa
