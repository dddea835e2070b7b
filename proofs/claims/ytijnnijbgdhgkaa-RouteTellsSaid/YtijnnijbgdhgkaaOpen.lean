/-
  An array of three numbers by value: what its value is.
-/
import Derived.Test.YtijnnijbgdhgkaaRows
import Derived.ProofKit
import Derived.OpenShut
namespace Go.Proofs.Ytijnnijbgdhgkaa
open Go.ChangeShapes Go.WideShapes Go.ChangeAt Go.RowKit
theorem cells27 : Try.prog.cellsOf 27 = 3 := by kernel_rfl
theorem cells3 : Try.prog.cellsOf 3 = 1 := by kernel_rfl
theorem wf_bd {x : Int} (h : (Lit.int .i64 x).wf = true) : -9223372036854775808 ≤ x ∧ x ≤ 9223372036854775807 := by
  simpa [Lit.wf, IntKind.min, IntKind.max, IntKind.signed, IntKind.bits] using h
theorem open_arr3 {H : Type} {enc : TypeId × Value → H} {W : World} {r : Reach} {b0 base : Nat} {sp : Nat → Bool} {held : Bool} {v : Value} {d : DataW H} {p : List MemPlace}
    (hv : Value.okWide Try.prog W r b0 27 v) (h : DataW.Trod enc Try.prog W base sp held 27 v d p) :
    ∃ x y z : Int, v = .agg #[.int .i64 x, .int .i64 y, .int .i64 z] ∧ (-9223372036854775808 ≤ x ∧ x ≤ 9223372036854775807) ∧ (-9223372036854775808 ≤ y ∧ y ≤ 9223372036854775807) ∧ (-9223372036854775808 ≤ z ∧ z ≤ 9223372036854775807) := by
  obtain ⟨cs, rfl, hsz, _⟩ : ∃ cs, v = .agg cs ∧ cs.size = Try.prog.cellsOf 27 ∧ Row.okWide Try.prog W r b0 27 cs := by
    simpa [Value.okWide, Try.underlying27] using hv
  obtain ⟨m, hm⟩ := h
  obtain ⟨xs, m', rfl, _, hl, hxs, hall⟩ := DataW.trod_array Try.underlying27 hm
  rw [cells27] at hsz
  obtain ⟨l⟩ := cs
  obtain ⟨c0, c1, c2, rfl⟩ : ∃ a b c, l = [a, b, c] := by
    match l, hsz with
    | [a, b, c], _ => exact ⟨a, b, c, rfl⟩
  have g0 := hall 0 (by omega)
  have g1 := hall 1 (by omega)
  have g2 := hall 2 (by omega)
  rw [cells3] at g0 g1 g2
  obtain ⟨u0, hu0⟩ : ∃ u, xs[0]? = some u := ⟨_, List.getElem?_eq_getElem (by omega)⟩
  obtain ⟨u1, hu1⟩ : ∃ u, xs[1]? = some u := ⟨_, List.getElem?_eq_getElem (by omega)⟩
  obtain ⟨u2, hu2⟩ : ∃ u, xs[2]? = some u := ⟨_, List.getElem?_eq_getElem (by omega)⟩
  rw [hu0] at g0; rw [hu1] at g1; rw [hu2] at g2
  obtain ⟨x0, e0, _, w0⟩ := DataW.trod_int Try.underlying3 g0
  obtain ⟨x1, e1, _, w1⟩ := DataW.trod_int Try.underlying3 g1
  obtain ⟨x2, e2, _, w2⟩ := DataW.trod_int Try.underlying3 g2
  simp [Value.cells] at e0 e1 e2
  refine ⟨x0, x1, x2, ?_, wf_bd w0, wf_bd w1, wf_bd w2⟩
  rw [e0, e1, e2]
end Go.Proofs.Ytijnnijbgdhgkaa
