/-
  The walks of SameRules and of Same at tables of kinds.
-/
import Derived.Test.YtlndkeofhcneaaaK
namespace Go.Proofs.Ytlndkeofhcneaaa
open Go.RowKit Go.Shelf

attribute [local go_sem] Oper.semAt_some

set_option maxHeartbeats 1000000 in
theorem rules_nil (W : World) : Calls Try.prog 29 #[.slice none 0 0, .slice none 0 0] W fun e w' => e = .returned (.bool true) ∧ w' = W := by
  go_enter Try.func29, Try.ntmps29
  go_wp2_with fail
  refine wp_loop_rounds 1 ?_
  rw [rounds_succ]
  go_wp2_with fail
  go_ret
  exact ⟨rfl, rfl⟩

set_option maxHeartbeats 2000000 in
theorem same_nil (W : World) : Calls Try.prog 25 #[tabV none 0 0 0, tabV none 0 0 0] W fun e w' => e = .returned (.bool true) ∧ Below W.heap.size W w' := by
  unfold tabV
  go_enter Try.func25, Try.ntmps25
  go_wp2_with fail
  refine wp_loop_rounds 1 ?_
  rw [rounds_succ]
  go_wp2_with fail
  go_ret
  exact ⟨rfl, (below_alloc _ _).alloc (by simp) _⟩

set_option maxHeartbeats 2000000 in
theorem same_kind {W : World} {b b' c c' : Nat} {win : Int} (h : TabOK W (.slice (some ⟨b, 0, none⟩) 1 c) win) (h' : TabOK W (.slice (some ⟨b', 0, none⟩) 1 c') win) :
    Calls Try.prog 25 #[tabV (some ⟨b, 0, none⟩) 1 c win, tabV (some ⟨b', 0, none⟩) 1 c' win] W fun e w' => e = .returned (.bool true) ∧ Below W.heap.size W w' := by
  obtain ⟨_, _⟩ | ⟨_, _, e, hb⟩ := h
  · simp at *
  cases e
  obtain ⟨_, _⟩ | ⟨_, _, e, hb'⟩ := h'
  · simp at *
  cases e
  unfold tabV
  have x0 := blk_alloc (blk_new W (.cells #[.slice (some ⟨b, 0, none⟩) 1 c, .int .i64 win, .bool false] 38)) (.cells #[.slice (some ⟨b', 0, none⟩) 1 c', .int .i64 win, .bool false] 38)
  have x1 := blk_new (W.alloc (.cells #[.slice (some ⟨b, 0, none⟩) 1 c, .int .i64 win, .bool false] 38)) (.cells #[.slice (some ⟨b', 0, none⟩) 1 c', .int .i64 win, .bool false] 38)
  have y0 := blk_alloc (blk_alloc hb (.cells #[.slice (some ⟨b, 0, none⟩) 1 c, .int .i64 win, .bool false] 38)) (.cells #[.slice (some ⟨b', 0, none⟩) 1 c', .int .i64 win, .bool false] 38)
  have y1 := blk_alloc (blk_alloc hb' (.cells #[.slice (some ⟨b, 0, none⟩) 1 c, .int .i64 win, .bool false] 38)) (.cells #[.slice (some ⟨b', 0, none⟩) 1 c', .int .i64 win, .bool false] 38)
  have hbl : Below W.heap.size W ((W.alloc (.cells #[.slice (some ⟨b, 0, none⟩) 1 c, .int .i64 win, .bool false] 38)).alloc (.cells #[.slice (some ⟨b', 0, none⟩) 1 c', .int .i64 win, .bool false] 38)) := (below_alloc _ _).alloc (by simp) _
  rw [World.size_alloc] at x1
  obtain ⟨W1, e1⟩ : ∃ W1, (W.alloc (.cells #[.slice (some ⟨b, 0, none⟩) 1 c, .int .i64 win, .bool false] 38)).alloc (.cells #[.slice (some ⟨b', 0, none⟩) 1 c', .int .i64 win, .bool false] 38) = W1 := ⟨_, rfl⟩
  rw [e1] at x0 x1 y0 y1 hbl
  have HB := Lib.hid hbl
  have p0 := blk_cell x0 0
  have p1 := blk_cell x0 1
  have p2 := blk_cell x0 2
  have q0 := blk_cell x1 0
  have q1 := blk_cell x1 1
  have q2 := blk_cell x1 2
  have r0 := blk_cell y0 0
  have r1 := blk_cell y0 1
  have r2 := blk_cell y0 2
  have r3 := blk_cell y0 3
  have s0 := blk_cell y1 0
  have s1 := blk_cell y1 1
  have s2 := blk_cell y1 2
  have s3 := blk_cell y1 3
  have lx0 := blk_lt x0
  have lx1 := blk_lt x1
  have ly0 := blk_lt y0
  have ly1 := blk_lt y1
  simp only [List.getElem?_toArray, List.getElem?_cons_zero, List.getElem?_cons_succ] at p0 p1 p2 q0 q1 q2 r0 r1 r2 r3 s0 s1 s2 s3
  clear x0 x1 y0 y1 hb hb' hbl
  go_enter Try.func25, Try.ntmps25
  go_wp2_with fail
  refine wp_loop_rounds 2 ?_
  rw [rounds_succ]
  go_wp2_with fail
  refine (rules_nil _).mono ?_
  rintro e w2 ⟨rfl, rfl⟩
  obtain ⟨W2, e2⟩ : ∃ W2, (W1.alloc (.cells #[.int .i64 win, .bool false, .slice none 0 0, .slice none 0 0] 65)).alloc (.cells #[.int .i64 win, .bool false, .slice none 0 0, .slice none 0 0] 65) = W2 := ⟨_, rfl⟩
  have hb2 : Below W1.heap.size W1 W2 := by rw [← e2]; exact (below_alloc _ _).alloc (by simp) _
  have z0 := blk_alloc (blk_new W1 (.cells #[.int .i64 win, .bool false, .slice none 0 0, .slice none 0 0] 65)) (.cells #[.int .i64 win, .bool false, .slice none 0 0, .slice none 0 0] 65)
  have z1 := blk_new (W1.alloc (.cells #[.int .i64 win, .bool false, .slice none 0 0, .slice none 0 0] 65)) (.cells #[.int .i64 win, .bool false, .slice none 0 0, .slice none 0 0] 65)
  rw [World.size_alloc] at z1
  rw [e2] at z0 z1 ⊢
  clear e2
  have p0' := (hb2.cell (p := ⟨W.heap.size, 0, none⟩) lx0).trans p0
  have lx0' := Nat.lt_of_lt_of_le lx0 hb2.size
  have HB2 := Lib.hid (below_then HB.out hb2)
  have u0 := blk_cell z0 0
  have u1 := blk_cell z0 1
  have u3 := blk_cell z0 3
  have v0 := blk_cell z1 0
  have v1 := blk_cell z1 1
  have v3 := blk_cell z1 3
  have lz0 := blk_lt z0
  have lz1 := blk_lt z1
  simp only [List.getElem?_toArray, List.getElem?_cons_zero, List.getElem?_cons_succ] at u0 u1 u3 v0 v1 v3
  clear hb2 z0 z1 p0 p1 p2 q0 q1 q2 r0 r1 r2 r3 s0 s1 s2 s3 lx0 lx1 ly0 ly1 HB e1
  go_wp2_with fail
  refine wp_loop_rounds 1 ?_
  rw [rounds_succ]
  go_wp2_with fail
  rw [rounds_succ]
  go_wp2_with fail
  go_ret
  exact ⟨rfl, HB2.out⟩

end Go.Proofs.Ytlndkeofhcneaaa
