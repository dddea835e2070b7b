/-
  The chapter's examples: awake.
-/
import Derived.Test.YthflfafenehofaaW7
import Derived.Deep.QuietTactic
import Derived.BigQuiet
namespace Go.Proofs.Ythflfafenehofaa
open Go.RowKit Go.Shelf

attribute [local go_sem] Oper.semAt_some







theorem cget_nil (k : Int) : cget [] k = none := by unfold cget; split <;> simp

set_option maxHeartbeats 2000000 in
theorem awake_any (w : World) :
    Calls Try.prog 8 #[] w fun e w' => e = .returned (.bool true) ∧ Below w.heap.size w w' := by
  go_enter Try.func8, Try.ntmps8
  go_wp2_with fail
  go_at_call 9
  refine (new_any _).mono ?_
  rintro e w1 ⟨rfl, hc1, hb1⟩
  go_wp2_with fail
  have hL1 : w.heap.size + 1 < w1.heap.size := hc1.lt _ (.inr rfl)
  have hr2 : ((w1.alloc (.cells #[.int .i64 1, .int .i64 0] 31)).alloc (.cells #[.int .i64 2, .int .i64 0] 31)).heap[w1.heap.size]? = some (.cells #[.int .i64 1, .int .i64 0] 31) := blk_alloc (blk_new _ _) _
  have hs2 : ((w1.alloc (.cells #[.int .i64 1, .int .i64 0] 31)).alloc (.cells #[.int .i64 2, .int .i64 0] 31)).heap[w1.heap.size + 1]? = some (.cells #[.int .i64 2, .int .i64 0] 31) := by
    have := blk_new (w1.alloc (.cells #[.int .i64 1, .int .i64 0] 31)) (.cells #[.int .i64 2, .int .i64 0] 31)
    rwa [World.size_alloc] at this
  have hc2 := (hc1.alloc (.cells #[.int .i64 1, .int .i64 0] 31)).alloc (.cells #[.int .i64 2, .int .i64 0] 31)
  have hb2 : Below w.heap.size w ((w1.alloc (.cells #[.int .i64 1, .int .i64 0] 31)).alloc (.cells #[.int .i64 2, .int .i64 0] 31)) := (hb1.alloc (by omega) _).alloc (by simp; omega) _
  have hz2 : ((w1.alloc (.cells #[.int .i64 1, .int .i64 0] 31)).alloc (.cells #[.int .i64 2, .int .i64 0] 31)).heap.size = w1.heap.size + 2 := by simp
  obtain ⟨w2, hw2⟩ : ∃ w2, ((w1.alloc (.cells #[.int .i64 1, .int .i64 0] 31)).alloc (.cells #[.int .i64 2, .int .i64 0] 31)) = w2 := ⟨_, rfl⟩
  rw [hw2] at hr2 hs2 hc2 hb2 hz2 ⊢
  clear hw2
  go_at_call 10
  refine (push_first hc2 (by simp) (cget_nil _) 5 1 0).mono ?_
  rintro e w3 ⟨rfl, hc3, hk3⟩
  have hX0 : ∀ k, XNew w k → w.heap.size ≤ k ∧ k < w1.heap.size := fun k hk => by rcases hk with rfl | rfl <;> omega
  have hr3 := (hk3.block _ (blk_lt hr2) (fun h => by have := hX0 _ h; omega)).trans hr2
  have hs3 := (hk3.block _ (blk_lt hs2) (fun h => by have := hX0 _ h; omega)).trans hs2
  have hb3 := hb2.trans (hk3.below (B := w.heap.size) (by omega) (fun k h => (hX0 k h).1))
  have hcs := blk_cell hs3 0
  have hcs' := blk_cell hs3 1
  have hls := blk_lt hs3
  simp only [List.nil_append] at hc3
  go_wp2_with fail
  have hX3 : ∀ k, (XNew w k ∨ k = w2.heap.size + 1) → w.heap.size ≤ k ∧ k ≠ w1.heap.size ∧ k ≠ w1.heap.size + 1 := fun k hk => by
    rcases hk with hk | rfl
    · have := hX0 k hk; omega
    · omega
  go_at_call 10
  refine (push_next hc3 (by simp) 0 1 7 2 0 (p := ⟨w2.heap.size + 1, -1, 0, 5, 1, 0, 1⟩) rfl (by dsimp only; omega) (by dsimp only; omega) (by dsimp only; omega)).mono ?_
  rintro e w4 ⟨rfl, hc4, hk4⟩
  have hr4 := (hk4.block _ (blk_lt hr3) (fun h => (hX3 _ h).2.1 rfl)).trans hr3
  have hs4 := (hk4.block _ (blk_lt hs3) (fun h => (hX3 _ h).2.2 rfl)).trans hs3
  have hb4 := hb3.trans (hk4.below (B := w.heap.size) (by have := hb3.size; omega) (fun k h => (hX3 k h).1))
  simp only [Int.toNat_zero, List.set_cons_zero, List.cons_append, List.nil_append] at hc4
  go_wp2_with fail
  generalize hA : w2.heap.size + 1 = ba at hc4
  generalize hB : w3.heap.size + 1 = bb at hc4
  go_at_call 13
  refine (sets_yes hc4 1 ⟨bb, 0, 1, 7, 2, 0, 1⟩ [⟨bb, 0, 1, 7, 2, 0, 1⟩, ⟨ba, -1, 0, 5, 1, 0, 1 + 1⟩] rfl (.cons rfl (.cons rfl (.nil rfl))) (by intro n hn; simp at hn; rcases hn with rfl | rfl <;> (dsimp only; omega)) 2 (by dsimp only; omega) (by omega) (by simp)).mono ?_
  rintro e w5 ⟨vs, rfl, hrows, hb5⟩
  have hc5 := hc4.belowN hc4.lt hb5
  have hr5 := (hb5.block _ (blk_lt hr4)).trans hr4
  have hs5 := (hb5.block _ (blk_lt hs4)).trans hs4
  have hb5' : Below w.heap.size w w5 := hb4.trans (hb5.mono hb4.size)
  go_wp2_with fail
  have hi5 : IsInts (fun _ => True) (((w5.alloc (.cells #[.int .i64 5] 3)).alloc (.cells #[.int .i64 7] 3)).alloc (.cells #[.slice (some ⟨w5.heap.size, 0, none⟩) 1 1, .slice (some ⟨w5.heap.size + 1, 0, none⟩) 1 1] 22)) (.slice (some ⟨w5.heap.size, 0, none⟩) 1 1) [5] := by
    refine ⟨_, _, rfl, fun i x hx => ⟨_, _, rfl, trivial, by simp; omega, ?_⟩⟩
    match i, hx with
    | 0, hx =>
      simp at hx
      subst hx
      exact (blk_cell (blk_alloc (blk_alloc (blk_new w5 (.cells #[.int .i64 5] 3)) _) _) 0)
  have hi7 : IsInts (fun _ => True) (((w5.alloc (.cells #[.int .i64 5] 3)).alloc (.cells #[.int .i64 7] 3)).alloc (.cells #[.slice (some ⟨w5.heap.size, 0, none⟩) 1 1, .slice (some ⟨w5.heap.size + 1, 0, none⟩) 1 1] 22)) (.slice (some ⟨w5.heap.size + 1, 0, none⟩) 1 1) [7] := by
    refine ⟨_, _, rfl, fun i x hx => ⟨_, _, rfl, trivial, by simp, ?_⟩⟩
    match i, hx with
    | 0, hx =>
      simp at hx
      subst hx
      have h := blk_new (w5.alloc (.cells #[.int .i64 5] 3)) (.cells #[.int .i64 7] 3)
      rw [World.size_alloc] at h
      exact (blk_cell (blk_alloc h _) 0)
  have hlit : IsRows (fun _ => True) (((w5.alloc (.cells #[.int .i64 5] 3)).alloc (.cells #[.int .i64 7] 3)).alloc (.cells #[.slice (some ⟨w5.heap.size, 0, none⟩) 1 1, .slice (some ⟨w5.heap.size + 1, 0, none⟩) 1 1] 22)) (.slice (some ⟨w5.heap.size + 1 + 1, 0, none⟩) 2 2) [[5], [7]] := by
    have h := blk_new ((w5.alloc (.cells #[.int .i64 5] 3)).alloc (.cells #[.int .i64 7] 3)) (.cells #[.slice (some ⟨w5.heap.size, 0, none⟩) 1 1, .slice (some ⟨w5.heap.size + 1, 0, none⟩) 1 1] 22)
    rw [World.size_alloc, World.size_alloc] at h
    refine ⟨_, _, rfl, fun i xs hx => ?_⟩
    match i, hx with
    | 0, hx =>
      simp at hx
      subst hx
      exact ⟨_, _, _, rfl, trivial, blk_lt h, blk_cell h 0, hi5⟩
    | 1, hx =>
      simp at hx
      subst hx
      exact ⟨_, _, _, rfl, trivial, blk_lt h, blk_cell h 1, hi7⟩
  have hb6 : Below w5.heap.size w5 (((w5.alloc (.cells #[.int .i64 5] 3)).alloc (.cells #[.int .i64 7] 3)).alloc (.cells #[.slice (some ⟨w5.heap.size, 0, none⟩) 1 1, .slice (some ⟨w5.heap.size + 1, 0, none⟩) 1 1] 22)) :=
    (((Below.refl _ w5).alloc (Nat.le_refl _) _).alloc (by simp) _).alloc (by simp; omega) _
  obtain ⟨w6, hw6⟩ : ∃ w6, (((w5.alloc (.cells #[.int .i64 5] 3)).alloc (.cells #[.int .i64 7] 3)).alloc (.cells #[.slice (some ⟨w5.heap.size, 0, none⟩) 1 1, .slice (some ⟨w5.heap.size + 1, 0, none⟩) 1 1] 22)) = w6 := ⟨_, rfl⟩
  rw [hw6] at hlit hb6 ⊢
  clear hw6 hi5 hi7
  go_at_call 12
  refine (cmp_eq (xss := [[5], [7]]) (hrows.below hb6) hlit (by simp) (by simp)).mono ?_
  rintro e w7 ⟨rfl, n7, rfl⟩
  have hc7 : IsChain _ (w6.drewN n7) _ _ _ := (hc5.belowN hc5.lt hb6).drewN n7
  have hr7 : (w6.drewN n7).heap[_]? = some _ := (hb6.block _ (blk_lt hr5)).trans hr5
  have hs7 : (w6.drewN n7).heap[_]? = some _ := (hb6.block _ (blk_lt hs5)).trans hs5
  have hb7 : Below w.heap.size w (w6.drewN n7) := below_drewN (hb5'.trans (hb6.mono hb5'.size)) n7
  obtain ⟨w8, hw8⟩ : ∃ w8, w6.drewN n7 = w8 := ⟨_, rfl⟩
  rw [hw8] at hc7 hr7 hs7 hb7 ⊢
  clear hw8 hb6 hlit
  go_wp2_with fail
  have hX4 : ∀ k, ((XNew w k ∨ k = ba) ∨ k = bb) → w.heap.size ≤ k ∧ k ≠ w1.heap.size ∧ k ≠ w1.heap.size + 1 := fun k hk => by
    rcases hk with (hk | rfl) | rfl
    · have := hX0 k hk; omega
    · omega
    · have := hk3.size; omega
  go_at_call 11
  refine (drop_yes hc7 0 (n := ⟨ba, -1, 0, 5, 1, 0, 1 + 1⟩) rfl (by
    intro k n hk
    obtain ⟨h0, h1, h2⟩ := cget_some hk
    match hj : k.toNat, h1 with
    | 0, _ => rw [hj] at h2; simp at h2; subst h2; dsimp only; omega
    | 1, _ => rw [hj] at h2; simp at h2; subst h2; dsimp only; omega) (by simp [cnt])).mono ?_
  rintro e w9 ⟨vl, out, M9, rfl, hd, hown, hc9, hk9⟩
  obtain ⟨rfl, rfl⟩ := hd.uniq (.held (n := ⟨ba, -1, 0, 5, 1, 0, 1 + 1⟩) rfl (by dsimp only; omega))
  have hr9 := (hk9.block _ (blk_lt hr7) (fun h => (hX4 _ h).2.1 rfl)).trans hr7
  have hs9 := (hk9.block _ (blk_lt hs7) (fun h => (hX4 _ h).2.2 rfl)).trans hs7
  have hb9 := hb7.trans (hk9.below (B := w.heap.size) (by have := hb7.size; omega) (fun k h => (hX4 k h).1))
  have hl0 : ∃ p cap, vl = .slice p 0 cap := by
    rcases own_refs hown with ⟨h, _⟩ | ⟨g, cap, h, _⟩
    · exact ⟨_, _, h⟩
    · exact ⟨_, _, h⟩
  obtain ⟨pl, cl, rfl⟩ := hl0
  simp only [Int.toNat_zero, List.set_cons_zero] at hc9
  go_wp2_with fail
  go_at_call 11
  refine (drop_yes hc9 1 (n := ⟨bb, 0, 1, 7, 2, 0, 1⟩) rfl (by
    intro k n hk
    obtain ⟨h0, h1, h2⟩ := cget_some hk
    match hj : k.toNat, h1 with
    | 0, _ => rw [hj] at h2; simp at h2; subst h2; dsimp only; omega
    | 1, _ => rw [hj] at h2; simp at h2; subst h2; dsimp only; omega) (by simp [cnt])).mono ?_
  rintro e w10 ⟨vm, out2, M10, rfl, hd2, hown2, hc10, hk10⟩
  obtain ⟨rfl, rfl⟩ := hd2.uniq (.gone (n := ⟨bb, 0, 1, 7, 2, 0, 1⟩) rfl (by dsimp only; omega) (.gone (n := ⟨ba, -1, 0, 5, 1, 0, 1 + 1 - 1⟩) rfl (by dsimp only; omega) (.stop rfl)))
  have hr10 := (hk10.block _ (blk_lt hr9) (fun h => (hX4 _ h).2.1 rfl)).trans hr9
  have hs10 := (hk10.block _ (blk_lt hs9) (fun h => (hX4 _ h).2.2 rfl)).trans hs9
  have hb10 := hb9.trans (hk10.below (B := w.heap.size) (by have := hb9.size; omega) (fun k h => (hX4 k h).1))
  rcases own_refs hown2 with ⟨_, h⟩ | ⟨g, cap, rfl, hg1, hg2, hcells⟩
  · cases h
  obtain ⟨m0, m1⟩ := hcells 0 _ rfl
  obtain ⟨m2, m3⟩ := hcells 1 _ rfl
  have r0 := blk_cell hr10 0
  have r1 := blk_cell hr10 1
  have s0 := blk_cell hs10 0
  have s1 := blk_cell hs10 1
  have rl := blk_lt hr10
  have sl := blk_lt hs10
  clear hc10 hcells hown2 hown hd2 hd hr10 hs10 hr9 hs9 hr7 hs7 hr5 hs5 hr4 hs4 hr3 hs3 hr2 hs2 hk10 hk9 hX4 hX3 hX0 hc9 hc7 hc5 hc4 hc3 hc2 hc1 hcs hcs' hk4 hk3
  simp only [Nat.mul_zero, Nat.zero_add, Nat.mul_one, Nat.reduceAdd, List.length_cons, List.length_nil] at m0 m1 m2 m3 ⊢
  simp at r0 r1 s0 s1
  go_wp2_with fail
  go_quiet (fail)
  go_wp2_with fail
  go_ret
  exact ⟨rfl, ⟨hb10.os, hb10.tape, hb10.output, hb10.size, hb10.block⟩⟩

end Go.Proofs.Ythflfafenehofaa
