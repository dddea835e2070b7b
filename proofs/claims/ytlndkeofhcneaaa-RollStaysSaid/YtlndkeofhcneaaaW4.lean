/-
  The walk of Add.
-/
import Derived.Test.YtlndkeofhcneaaaW3
import Derived.Test.YtlndkeofhcneaaaRound
namespace Go.Proofs.Ytlndkeofhcneaaa
open Go.RowKit Go.Shelf

attribute [local go_sem] Oper.semAt_some

set_option maxHeartbeats 1000000 in
theorem add_no {W : World} {r v : Value} {C : List EN} (h : IsRoll W r v C) (id : Int) (sp : Option Addr) (sn sc : Nat) (win : Int) (hl : C.length ≤ 900)
    (hno : id < 0 ∨ ∃ e, C[C.length - 1]? = some e ∧ id ≤ e.id) :
    Calls Try.prog 11 #[r, .int .i64 id, tabV sp sn sc win] W fun e w' => e = .returned (.tuple #[r, .bool false]) ∧ Below W.heap.size W w' := by
  have hA := h.below (below_alloc W (.cells #[.slice sp sn sc, .int .i64 win, .bool false] 38))
  have hb : Below W.heap.size W (W.alloc (.cells #[.slice sp sn sc, .int .i64 win, .bool false] 38)) := below_alloc _ _
  unfold tabV
  by_cases h0 : id < 0
  · clear hno
    go_enter Try.func11, Try.ntmps11
    go_wp2_with fail
    go_at_call 21
    refine (all_any hA).mono ?_
    rintro e w1 ⟨rfl, rfl⟩
    go_wp2_with fail
    go_ret2
    exact ⟨rfl, hb⟩
  · obtain ⟨e, he, hle⟩ := hno.resolve_left h0
    have hpos := (List.getElem?_eq_some_iff.1 he).1
    rcases hA.ents.cells with ⟨_, rfl⟩ | ⟨g, cap, rfl, hg, hcap, hfr, hcell⟩
    · simp at he
    obtain ⟨d0, _⟩ := hcell _ _ he
    have HA := Lib.hid (And.intro hA hb)
    clear hno hcell he hfr h hA hb
    go_enter Try.func11, Try.ntmps11
    go_wp2_with fail
    go_at_call 21
    refine (all_any HA.out.1).mono ?_
    rintro e w1 ⟨rfl, rfl⟩
    go_wp2_with fail
    go_ret2
    exact ⟨rfl, HA.out.2⟩

end Go.Proofs.Ytlndkeofhcneaaa
