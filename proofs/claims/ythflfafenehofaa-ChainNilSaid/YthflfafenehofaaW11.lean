/-
  The walk of ChainNil.
-/
import Derived.Test.YthflfafenehofaaW8
import Derived.Test.YthflfafenehofaaW10
namespace Go.Proofs.Ythflfafenehofaa
open Go.RowKit Go.Shelf

attribute [local go_sem] Oper.semAt_some

theorem back_nil' (k : Int) (w : World) :
    Calls Try.prog 15 #[.pointer none, .int .i64 k] w fun e w' => ∃ p cap, e = .returned (.slice p 0 cap) ∧ Below w.heap.size w w' := by
  refine (back_nil k w).mono ?_
  rintro e w' ⟨vo, rfl, hr, hb⟩
  rcases own_refs (l := []) hr with ⟨rfl, _⟩ | ⟨g, cap, rfl, _⟩
  · exact ⟨_, _, rfl, hb⟩
  · exact ⟨_, _, rfl, hb⟩

set_option maxHeartbeats 2000000 in
theorem nil_any (id : Int) (w : World) : Calls Try.prog 7 #[.int .i64 id] w fun e w' => e = .returned (.bool true) ∧ Below w.heap.size w w' := by
  go_enter Try.func7, Try.ntmps7
  go_wp2_with (first | (go_at_call 10; refine (push_nil _ _ _ _ _ _).mono ?_; rintro e w1 ⟨rfl, hb1⟩) | (go_at_call 11; refine (drop_nil _ _).mono ?_; rintro e w1 ⟨rfl, rfl⟩))
  go_at_call 8
  refine (awake_any _).mono ?_
  rintro e w2 ⟨rfl, hb2⟩
  go_wp2_with (first | (go_at_call 22; refine (keep_nil _ _).mono ?_; rintro e w3 ⟨rfl, rfl⟩) | (go_at_call 13; refine (sets_nil _ _).mono ?_; rintro e w3 ⟨rfl, rfl⟩))
  go_at_call 15
  refine (back_nil' _ _).mono ?_
  rintro e w3 ⟨p, cap, rfl, hb3⟩
  go_wp2_with (first | (go_at_call 18; refine (count_nil _ _).mono ?_; rintro e w4 ⟨rfl, rfl⟩) | (go_at_call 14; refine (live_nil _).mono ?_; rintro e w4 ⟨rfl, rfl⟩))
  go_ret
  exact ⟨rfl, (hb1.trans (hb2.mono hb1.size)).trans (hb3.mono (hb1.trans (hb2.mono hb1.size)).size)⟩

end Go.Proofs.Ythflfafenehofaa
