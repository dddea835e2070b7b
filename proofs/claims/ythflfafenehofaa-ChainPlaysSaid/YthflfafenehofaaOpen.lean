/-
  A slice of numbers that came in: what its value is.
-/
import Derived.Test.YthflfafenehofaaRows
import Derived.Test.YthflfafenehofaaW4
import Derived.ProofKit
import Derived.OpenShut
import Derived.ChangeSlices
namespace Go.Proofs.Ythflfafenehofaa
open Go.ChangeShapes Go.WideShapes Go.ChangeAt Go.RowKit Go.ChangeMaps
theorem cells3 : Try.prog.cellsOf 3 = 1 := by kernel_rfl
theorem open_isints {H : Type} {enc : TypeId × Value → H} {W : World} {r : Reach} {b0 base : Nat} {sp : Nat → Bool} {held : Bool} {v : Value} {d : DataW H} {p : List MemPlace}
    (hv : Value.okWide Try.prog W r b0 22 v) (h : DataW.Trod enc Try.prog W base sp held 22 v d p) : ∃ nums : List Int, IsInts (fun _ => True) W v nums := by
  obtain ⟨a0, len, cap, rfl⟩ := okWide_slice Try.underlying22 hv
  obtain ⟨fuel, hf⟩ := h
  rcases open_ints Try.underlying22 Try.underlying3 cells3 hf with ⟨hcs, hx⟩ | ⟨a, len', cap', zs, hcs, _, hl, hm, hz, hx, hcell, hwz⟩
  · simp only [Value.cells, List.cons.injEq, and_true, Value.slice.injEq] at hcs
    obtain ⟨rfl, rfl, rfl⟩ := hcs
    exact ⟨[], none, 0, rfl, fun i x hx => by simp at hx⟩
  · simp only [Value.cells, List.cons.injEq, and_true, Value.slice.injEq] at hcs
    obtain ⟨rfl, rfl, rfl⟩ := hcs
    have hlz : len ≤ zs.length := by rw [hz]; split <;> omega
    refine ⟨zs.take len, some a, cap, by rw [List.length_take, Nat.min_eq_left hlz], fun i x hi => ?_⟩
    have hil : i < len := by
      have := (List.getElem?_eq_some_iff.1 hi).1
      rw [List.length_take] at this
      omega
    rw [List.getElem?_take, if_pos hil] at hi
    have h0 := hcell 0 (by omega)
    have hb := World.block_lt_of_cell? W _ h0
    have hsp : a.spot = none := by
      have e : a.add 0 = a := by simp [Addr.add]
      rw [e] at h0
      unfold World.cell? at h0
      split at h0
      · cases hs : a.spot with
        | none => rfl
        | some s => rw [hs] at h0; simp at h0
      · cases h0
    have hi2 := hcell i (by omega)
    obtain ⟨b, off, s⟩ := a
    dsimp only at hsp
    subst hsp
    refine ⟨b, off, rfl, trivial, by simpa [Addr.add] using hb, ?_⟩
    rw [List.getD_eq_getElem?_getD, hi] at hi2
    by_cases e : i = 0
    · subst e; simpa [Addr.add] using hi2
    · simpa [Addr.add, e] using hi2

end Go.Proofs.Ythflfafenehofaa
