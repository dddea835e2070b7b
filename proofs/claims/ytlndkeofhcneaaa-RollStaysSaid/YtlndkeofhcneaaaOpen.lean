/-
  A slice of numbers that came in: what its value is.
-/
import Derived.Test.YtlndkeofhcneaaaRows
import Derived.Test.YtlndkeofhcneaaaK
import Derived.ProofKit
import Derived.OpenShut
import Derived.ChangeSlices
namespace Go.Proofs.Ytlndkeofhcneaaa
open Go.ChangeShapes Go.WideShapes Go.ChangeAt Go.RowKit Go.ChangeMaps

/-- A value is a row of numbers. -/
def IsInts (w : World) (v : Value) (xs : List Int) : Prop :=
  ∃ p cap, v = .slice p xs.length cap ∧ ∀ i x, xs[i]? = some x → ∃ b off, p = some ⟨b, off, none⟩ ∧ b < w.heap.size ∧ w.cell? ⟨b, off + i, none⟩ = some (.int .i64 x)
theorem IsInts.below {w w' : World} {v : Value} {xs : List Int} (h : IsInts w v xs) (k : Below w.heap.size w w') : IsInts w' v xs := by
  obtain ⟨p, cap, hv, hc⟩ := h
  refine ⟨p, cap, hv, fun i x hx => ?_⟩
  obtain ⟨b, off, h1, h3, h4⟩ := hc i x hx
  exact ⟨b, off, h1, Nat.lt_of_lt_of_le h3 k.size, (k.cell (p := ⟨b, off + i, none⟩) h3).trans h4⟩

theorem cells3 : Try.prog.cellsOf 3 = 1 := by kernel_rfl
theorem open_isints {H : Type} {enc : TypeId × Value → H} {W : World} {r : Reach} {b0 base : Nat} {sp : Nat → Bool} {held : Bool} {v : Value} {d : DataW H} {p : List MemPlace}
    (hv : Value.okWide Try.prog W r b0 43 v) (h : DataW.Trod enc Try.prog W base sp held 43 v d p) : ∃ nums : List Int, IsInts W v nums := by
  obtain ⟨a0, len, cap, rfl⟩ := okWide_slice Try.underlying43 hv
  obtain ⟨fuel, hf⟩ := h
  rcases open_ints Try.underlying43 Try.underlying3 cells3 hf with ⟨hcs, hx⟩ | ⟨a, len', cap', zs, hcs, _, hl, hm, hz, hx, hcell, hwz⟩
  · simp only [Value.cells, List.cons.injEq, and_true, Value.slice.injEq] at hcs
    obtain ⟨rfl, rfl, rfl⟩ := hcs
    exact ⟨[], none, 0, rfl, fun i x hx => by simp at hx⟩
  · simp only [Value.cells, List.cons.injEq, and_true, Value.slice.injEq] at hcs
    obtain ⟨rfl, rfl, rfl⟩ := hcs
    have hlz : len ≤ zs.length := by rw [hz]; split <;> omega
    refine ⟨zs.take len, some a, cap, by rw [List.length_take, Nat.min_eq_left hlz], fun i x hi => ?_⟩
    have hil : i < len := by
      have := (List.getElem?_eq_some_iff.1 hi).1
      rw [List.length_take] at this
      omega
    rw [List.getElem?_take, if_pos hil] at hi
    have h0 := hcell 0 (by omega)
    have hb := World.block_lt_of_cell? W _ h0
    have hsp : a.spot = none := by
      have e : a.add 0 = a := by simp [Addr.add]
      rw [e] at h0
      unfold World.cell? at h0
      split at h0
      · cases hs : a.spot with
        | none => rfl
        | some s => rw [hs] at h0; simp at h0
      · cases h0
    have hi2 := hcell i (by omega)
    obtain ⟨b, off, s⟩ := a
    dsimp only at hsp
    subst hsp
    refine ⟨b, off, rfl, by simpa [Addr.add] using hb, ?_⟩
    rw [List.getD_eq_getElem?_getD, hi] at hi2
    by_cases e : i = 0
    · subst e; simpa [Addr.add] using hi2
    · simpa [Addr.add, e] using hi2

end Go.Proofs.Ytlndkeofhcneaaa
