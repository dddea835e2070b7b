/-
  The walk of numbers.
-/
import Derived.Test.YtlndkeofhcneaaaK
import Derived.Deep.QuietTactic
namespace Go.Proofs.Ytlndkeofhcneaaa
open Go.RowKit Go.Shelf

attribute [local go_sem] Oper.semAt_some

def actV (e n : Bool) (i t : Int) : Value := .agg #[.bool e, .bool n, .int .i64 i, .int .i64 t]

set_option maxHeartbeats 2000000 in
theorem numbers_any (e n : Bool) (i t : Int) (W : World) :
    Calls Try.prog 8 #[actV e n i t] W fun x w' => ∃ a b, x = .returned (.tuple #[.int .i64 a, .int .i64 b]) ∧ Below W.heap.size W w' := by
  obtain ⟨W1, e1⟩ : ∃ W1, W.alloc (.cells #[.bool e, .bool n, .int .i64 i, .int .i64 t] 27) = W1 := ⟨_, rfl⟩
  have z : W1.heap[W.heap.size]? = some (.cells #[.bool e, .bool n, .int .i64 i, .int .i64 t] 27) := by rw [← e1]; exact blk_new _ _
  have HB := Lib.hid (show Below W.heap.size W W1 from by rw [← e1]; exact below_alloc _ _)
  have z1 := blk_cell z 1
  have z2 := blk_cell z 2
  have z3 := blk_cell z 3
  have zl := blk_lt z
  simp only [List.getElem?_toArray, List.getElem?_cons_zero, List.getElem?_cons_succ] at z1 z2 z3
  clear z
  unfold actV
  cases n
  · go_enter Try.func8, Try.ntmps8
    go_wp2_with fail
    go_quiet (fail)
    have HB2 := Lib.hid (below_then HB.out (below_drewN W1 nq))
    go_wp2_with fail
    go_ret2
    exact ⟨_, _, rfl, HB2.out⟩
  · go_enter Try.func8, Try.ntmps8
    go_wp2_with fail
    go_quiet (fail)
    have HB2 := Lib.hid (below_then HB.out (below_drewN W1 nq))
    go_wp2_with fail
    go_ret2
    exact ⟨_, _, rfl, HB2.out⟩

end Go.Proofs.Ytlndkeofhcneaaa
