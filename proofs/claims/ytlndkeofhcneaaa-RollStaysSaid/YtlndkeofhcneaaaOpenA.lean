/-
  A slice of acts that came in: what its value is.
-/
import Derived.Test.YtlndkeofhcneaaaOpen
import Derived.Deep.Slices
namespace Go.Proofs.Ytlndkeofhcneaaa
open Go.ChangeShapes Go.WideShapes Go.ChangeAt Go.RowKit Go.ChangeMaps

structure AC where
  fin : Bool
  near : Bool
  id : Int
  to : Int

instance : Inhabited AC := ⟨⟨false, false, 0, 0⟩⟩

/-- A value is a row of acts. -/
def IsActs (w : World) (v : Value) (xs : List AC) : Prop :=
  ∃ p cap, v = .slice p xs.length cap ∧ ∀ i x, xs[i]? = some x → ∃ b off, p = some ⟨b, off, none⟩ ∧ b < w.heap.size ∧ w.cell? ⟨b, off + i * 4, none⟩ = some (.bool x.fin) ∧ w.cell? ⟨b, off + i * 4 + 1, none⟩ = some (.bool x.near) ∧
    w.cell? ⟨b, off + i * 4 + 2, none⟩ = some (.int .i64 x.id) ∧ w.cell? ⟨b, off + i * 4 + 3, none⟩ = some (.int .i64 x.to)

theorem cells4 : Try.prog.cellsOf 4 = 1 := by kernel_rfl
theorem cells27 : Try.prog.cellsOf 27 = 4 := by kernel_rfl
theorem open_isacts {H : Type} {enc : TypeId × Value → H} {W : World} {r : Reach} {b0 base : Nat} {sp : Nat → Bool} {held : Bool} {v : Value} {d : DataW H} {p : List MemPlace}
    (hv : Value.okWide Try.prog W r b0 22 v) (h : DataW.Trod enc Try.prog W base sp held 22 v d p) : ∃ acts : List AC, IsActs W v acts := by
  obtain ⟨a0, len, cap, rfl⟩ := okWide_slice Try.underlying22 hv
  obtain ⟨fuel, hf⟩ := h
  rcases Deep.open_slice Try.underlying22 hf with ⟨hcs, hx⟩ | ⟨a, len', cap', m, n, D, Pl, hcs, _, hl, hm, hmm, hx, hel⟩
  · simp only [Value.cells, List.cons.injEq, and_true, Value.slice.injEq] at hcs
    obtain ⟨rfl, rfl, rfl⟩ := hcs
    exact ⟨[], none, 0, rfl, fun i x hx => by simp at hx⟩
  · simp only [Value.cells, List.cons.injEq, and_true, Value.slice.injEq] at hcs
    obtain ⟨rfl, rfl, rfl⟩ := hcs
    have hlm : len ≤ m := by rw [hmm]; split <;> omega
    have each : ∀ i, i < len → ∃ q : AC, W.cell? (a.add (i * 4)) = some (.bool q.fin) ∧ W.cell? (a.add (i * 4 + 1)) = some (.bool q.near) ∧ W.cell? (a.add (i * 4 + 2)) = some (.int .i64 q.id) ∧ W.cell? (a.add (i * 4 + 3)) = some (.int .i64 q.to) := by
      intro i hi
      obtain ⟨cs', h1, h2⟩ := hel i (by omega)
      rw [cells27] at h1
      obtain ⟨_, hlen, hcell⟩ := World.cells?_some h1
      obtain ⟨xs, k, hk, hxy, _, hxl, hfs⟩ := DataW.trod_struct Try.underlying27 h2
      match xs, hxl, cs', hlen with
      | [y0, y1, y2, y3], _, [v0, v1, v2, v3], _ =>
        have g0 := hfs 0 _ rfl
        have g1 := hfs 1 _ rfl
        have g2 := hfs 2 _ rfl
        have g3 := hfs 3 _ rfl
        simp [cells3, cells4] at g0 g1 g2 g3
        obtain ⟨x0, e0, _⟩ := DataW.trod_bool Try.underlying4 g0
        obtain ⟨x1, e1, _⟩ := DataW.trod_bool Try.underlying4 g1
        obtain ⟨x2, e2, _, _⟩ := DataW.trod_int Try.underlying3 g2
        obtain ⟨x3, e3, _, _⟩ := DataW.trod_int Try.underlying3 g3
        simp at e0 e1 e2 e3
        subst e0; subst e1; subst e2; subst e3
        have c0 := hcell 0 (by omega)
        have c1 := hcell 1 (by omega)
        have c2 := hcell 2 (by omega)
        have c3 := hcell 3 (by omega)
        rw [Deep.add_add] at c0 c1 c2 c3
        exact ⟨⟨x0, x1, x2, x3⟩, by simpa using c0, by simpa using c1, by simpa using c2, by simpa using c3⟩
    obtain ⟨q, hq⟩ := Deep.choose_lt each
    refine ⟨(List.range len).map q, some a, cap, by simp, fun i x hi => ?_⟩
    have hil : i < len := by
      have := (List.getElem?_eq_some_iff.1 hi).1
      simpa using this
    have hx : q i = x := by
      rw [List.getElem?_map, List.getElem?_range hil] at hi
      simpa using hi
    subst hx
    have h0 := (hq 0 (by omega)).1
    have hb := World.block_lt_of_cell? W _ h0
    have hsp : a.spot = none := by
      have e : a.add (0 * 4) = a := by simp [Addr.add]
      rw [e] at h0
      unfold World.cell? at h0
      split at h0
      · cases hs : a.spot with
        | none => rfl
        | some s => rw [hs] at h0; simp at h0
      · cases h0
    obtain ⟨q0, q1, q2, q3⟩ := hq i hil
    obtain ⟨b, off, s⟩ := a
    dsimp only at hsp
    subst hsp
    have hadd : ∀ j, (⟨b, off, none⟩ : Addr).add j = ⟨b, off + j, none⟩ := fun j => by cases j <;> simp [Addr.add]
    rw [hadd] at q0 q1 q2 q3
    exact ⟨b, off, rfl, by simpa [Addr.add] using hb, q0, q1, q2, q3⟩

end Go.Proofs.Ytlndkeofhcneaaa
