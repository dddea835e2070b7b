/-
  The walks of all, of the search, of at, of kind.
-/
import Derived.Test.YtlndkeofhcneaaaMem
namespace Go.Proofs.Ytlndkeofhcneaaa
open Go.RowKit Go.Shelf

attribute [local go_sem] Oper.semAt_some

set_option maxHeartbeats 1000000 in
theorem all_any {W : World} {r v : Value} {C : List EN} (h : IsRoll W r v C) :
    Calls Try.prog 21 #[r] W fun e w' => e = .returned v ∧ w' = W := by
  rcases h.ptr with ⟨rfl, rfl, rfl⟩ | ⟨b, rfl, hb⟩
  · clear h
    go_enter Try.func21, Try.ntmps21
    go_wp2_with fail
    go_ret
    exact ⟨rfl, rfl⟩
  · have c0 := blk_cell hb 0
    simp only [List.getElem?_toArray, List.getElem?_cons_zero] at c0
    clear h
    go_enter Try.func21, Try.ntmps21
    go_wp2_with fail
    go_ret
    exact ⟨rfl, rfl⟩

/-- What the search's comparing says. -/
def cmpI (a b : Int) : Int := if a < b then -1 else if b < a then 1 else 0
set_option maxHeartbeats 1000000 in
theorem cmp_any (e : EN) (id : Int) (W : World) :
    Calls Try.prog 28 #[entV e, .int .i64 id] W fun x w' => x = .returned (.int .i64 (cmpI e.id id)) ∧ Below W.heap.size W w' := by
  obtain ⟨eid, eto, ewin, esp, esn, esc⟩ := e
  unfold cmpI entV
  dsimp only
  by_cases h1 : eid < id
  · rw [if_pos h1]
    go_enter Try.func28, Try.ntmps28
    go_wp2_with fail
    go_ret
    exact ⟨rfl, below_alloc _ _⟩
  · rw [if_neg h1]
    by_cases h2 : id < eid
    · rw [if_pos h2]
      go_enter Try.func28, Try.ntmps28
      go_wp2_with fail
      go_ret
      exact ⟨rfl, below_alloc _ _⟩
    · rw [if_neg h2]
      go_enter Try.func28, Try.ntmps28
      go_wp2_with fail
      go_ret
      exact ⟨rfl, below_alloc _ _⟩

end Go.Proofs.Ytlndkeofhcneaaa
