/-
  The walks of the document's chain: Push.
-/
import Derived.Test.YthflfafenehofaaM3
namespace Go.Proofs.Ythflfafenehofaa
open Go.RowKit Go.Shelf

attribute [local go_sem] Oper.semAt_some

set_option maxHeartbeats 1000000 in
theorem rpush_no {B : Nat} {W : World} {m : Nat} {v : Value} {R : List RN} (h : IsRef B W m v R) (prev cell num slot gen : Int)
    (hno : (prev = -1 ∧ cell ≠ 0) ∨ (prev ≠ -1 ∧ isR R prev = false) ∨ ∃ (j : Nat) (r : RN), prev = (j : Int) ∧ R[j]? = some r ∧ r.gone = false ∧ (0 ≤ r.cell ∧ r.cell ≤ 5) ∧ (cell < r.cell ∨ r.cell + 1 < cell ∨ 5 < cell)) :
    Calls Try.prog 29 #[.pointer (some ⟨m, 0, none⟩), .int .i64 prev, .int .i64 cell, .int .i64 num, .agg #[.int .i64 slot, .int .i64 gen]] W fun e w' => e = .returned (.tuple #[.int .i64 (-1), .bool false]) ∧ Below W.heap.size W w' := by
  have hA := h.below (W' := W.alloc (.cells #[.int .i64 slot, .int .i64 gen] 31)) ((Below.refl _ W).alloc (Nat.le_refl _) _)
  have hb : Below W.heap.size W (W.alloc (.cells #[.int .i64 slot, .int .i64 gen] 31)) := (Below.refl _ W).alloc (Nat.le_refl _) _
  rcases hno with ⟨h1, h2⟩ | ⟨h1, h2⟩ | ⟨j, r, rfl, hr, hg, hb5, hcase⟩
  · subst h1
    have hi : isR R (-1) = false := by simp [isR]
    go_enter Try.func29, Try.ntmps29
    go_wp2_with (go_at_call 17; refine (ris_any hA _).mono ?_; rintro e w1 ⟨rfl, rfl⟩; rw [hi])
    go_ret2
    exact ⟨rfl, hb⟩
  · have h1' : (prev == -1) = false := by simpa using h1
    go_enter Try.func29, Try.ntmps29
    go_wp2_with (go_at_call 17; refine (ris_any hA _).mono ?_; rintro e w1 ⟨rfl, rfl⟩; rw [h2])
    go_ret2
    exact ⟨rfl, hb⟩
  · have hi : isR R (j : Int) = true := by simp [isR, hr, hg]
    have h1' : ((j : Int) == -1) = false := by simp
    have h1 : ¬ (j : Int) = -1 := by omega
    obtain ⟨c1, c2, c3, hc⟩ := hA.cells
    rcases hc with ⟨_, e⟩ | ⟨g, cap, rfl, _, hgl, _, _, hcell⟩
    · subst e; simp at hr
    have hjl := (List.getElem?_eq_some_iff.1 hr).1
    have d1 := (hcell j r hr).2.1
    clear hcell hr hg
    obtain ⟨hb1, hb2⟩ := hb5
    by_cases h6 : cell < r.cell
    · clear hcase
      go_enter Try.func29, Try.ntmps29
      go_wp2_with (go_at_call 17; refine (ris_any hA _).mono ?_; rintro e w1 ⟨rfl, rfl⟩; rw [hi])
      all_goals
        go_ret2
        exact ⟨rfl, hb⟩
    · by_cases h7 : r.cell + 1 < cell
      · clear hcase
        go_enter Try.func29, Try.ntmps29
        go_wp2_with (go_at_call 17; refine (ris_any hA _).mono ?_; rintro e w1 ⟨rfl, rfl⟩; rw [hi])
        all_goals
          go_ret2
          exact ⟨rfl, hb⟩
      · have h8 : 5 < cell := by omega
        clear hcase
        go_enter Try.func29, Try.ntmps29
        go_wp2_with (go_at_call 17; refine (ris_any hA _).mono ?_; rintro e w1 ⟨rfl, rfl⟩; rw [hi])
        all_goals
          go_ret2
          exact ⟨rfl, hb⟩

theorem info51 : (Try.prog.info? 51).map (fun i => (i.zero, i.size, i.bytes)) = some (some (.agg #[.int .i64 0, .int .i64 0, .int .i64 0, .int .i64 0, .int .i64 0, .int .i64 0, .bool false]), 7, 56) := by kernel_rfl

set_option maxHeartbeats 2000000 in
set_option maxRecDepth 100000 in
theorem rpush_yes {B : Nat} {W : World} {m : Nat} {v : Value} {R : List RN} (h : IsRef B W m v R) (hB : B ≤ W.heap.size) (hl : R.length ≤ 1000) (prev cell num slot gen : Int)
    (hyes : (prev = -1 ∧ cell = 0) ∨ ∃ (j : Nat) (r : RN), prev = (j : Int) ∧ R[j]? = some r ∧ r.gone = false ∧ 0 ≤ r.cell ∧ r.cell ≤ cell ∧ cell ≤ r.cell + 1 ∧ cell ≤ 5) :
    Calls Try.prog 29 #[.pointer (some ⟨m, 0, none⟩), .int .i64 prev, .int .i64 cell, .int .i64 num, .agg #[.int .i64 slot, .int .i64 gen]] W fun e w' => e = .returned (.tuple #[.int .i64 (R.length : Int), .bool true]) ∧
      ∃ v', IsRef B w' m v' (R ++ [⟨prev, cell, num, slot, gen, 1, false⟩]) ∧ Keep (YR m v) W w' ∧ (∀ b, v'.ownBlock = some b → v.ownBlock = some b ∨ W.heap.size ≤ b) := by
  have hbA : Below W.heap.size W (W.alloc (.cells #[.int .i64 slot, .int .i64 gen] 31)) := (Below.refl _ W).alloc (Nat.le_refl _) _
  have hA := h.below hbA
  have x0 : (W.alloc (.cells #[.int .i64 slot, .int .i64 gen] 31)).cell? ⟨W.heap.size, 0, none⟩ = some (.int .i64 slot) := by simp
  have x1 : (W.alloc (.cells #[.int .i64 slot, .int .i64 gen] 31)).cell? ⟨W.heap.size, 1, none⟩ = some (.int .i64 gen) := by simp
  have hsz : (W.alloc (.cells #[.int .i64 slot, .int .i64 gen] 31)).heap.size = W.heap.size + 1 := by simp
  have hkA : Keep (YR m v) W (W.alloc (.cells #[.int .i64 slot, .int .i64 gen] 31)) := (Keep.refl _ W).alloc _
  obtain ⟨W1, hW1⟩ : ∃ W1, (W.alloc (.cells #[.int .i64 slot, .int .i64 gen] 31)) = W1 := ⟨_, rfl⟩
  rw [hW1] at hA x0 x1 hsz hkA
  have hml := blk_lt h.blk
  have hvl : ∀ b, v.ownBlock = some b → b < W.heap.size := fun b hb => (h.own.lt b hb).2
  have hvm := h.ne
  obtain ⟨c1, c2, c3, hc⟩ := hA.cells
  obtain ⟨i0, hi0, hz0, hz1, hz2⟩ := info_parts info51
  obtain ⟨v', W3, hrun3, hown3, hgr3, _, hat3⟩ := run_append_own_at (P := Try.prog) (W1.drew.alloc (.cells #[.int .i64 prev, .int .i64 cell, .int .i64 num, .int .i64 slot, .int .i64 gen, .int .i64 1, .bool false] 51)) B 43 43 51 i0 (.agg #[.int .i64 0, .int .i64 0, .int .i64 0, .int .i64 0, .int .i64 0, .int .i64 0, .bool false]) 7 56 Try.underlying43 hi0 hz0 hz1 hz2 rfl (by decide) v R.length (rnv R)
    ((show W1.drew.ownsRow B 51 7 v R.length (rnv R) from hA.own).alloc _) ⟨W1.heap.size, 0, none⟩ 1 1 [.int .i64 prev, .int .i64 cell, .int .i64 num, .int .i64 slot, .int .i64 gen, .int .i64 1, .bool false] rfl
    (fun j u hu => by
      have hblk := blk_new W1.drew (.cells #[.int .i64 prev, .int .i64 cell, .int .i64 num, .int .i64 slot, .int .i64 gen, .int .i64 1, .bool false] 51)
      have e : (⟨W1.heap.size, 0, none⟩ : Addr).add j = ⟨W1.heap.size, j, none⟩ := by cases j <;> simp [Addr.add]
      rw [e]
      exact (blk_cell (w := W1.drew.alloc (.cells #[.int .i64 prev, .int .i64 cell, .int .i64 num, .int .i64 slot, .int .i64 gen, .int .i64 1, .bool false] 51)) (b := W1.heap.size) hblk j).trans (by simpa using hu)) (fun u hu => by simp at hu; rcases hu with rfl | rfl | rfl | rfl | rfl | rfl | rfl <;> rfl) (by unfold maxLen; omega) (by omega) (by
      have e : (W1.drew.alloc (.cells #[.int .i64 prev, .int .i64 cell, .int .i64 num, .int .i64 slot, .int .i64 gen, .int .i64 1, .bool false] 51)).heap.size = W1.heap.size + 1 := by rw [World.size_alloc]; rfl
      omega)
  have hsD : W1.drew.heap.size = W1.heap.size := rfl
  have hs3 : W1.heap.size + 1 ≤ W3.heap.size := by have := hgr3.size; rw [World.size_alloc] at this; omega
  obtain ⟨g', cap', rfl⟩ := ownsRow_succ hown3
  have hvb : ∀ b, (Value.slice (some ⟨g', 0, none⟩) (R.length + 1) cap').ownBlock = some b → v.ownBlock = some b ∨ W.heap.size ≤ b := fun b hb => by
    rcases hat3 with e | e
    · rw [e] at hb; exact .inl hb
    · rw [hb] at e
      injection e with e
      right
      have e2 : (W1.drew.alloc (.cells #[.int .i64 prev, .int .i64 cell, .int .i64 num, .int .i64 slot, .int .i64 gen, .int .i64 1, .bool false] 51)).heap.size = W1.heap.size + 1 := by rw [World.size_alloc]; rfl
      omega
  have hold : ∀ b, b < W1.heap.size → v.ownBlock ≠ some b → W3.heap[b]? = W1.heap[b]? := fun b hb hn =>
    (hgr3.block b (by rw [World.size_alloc]; omega) (fun e => hn e.symm)).trans (Below.heap_alloc W1.drew _ b hb)
  have hgm : g' ≠ m := by
    intro e
    rcases hvb g' rfl with e2 | e2
    · rw [e] at e2; exact hvm e2
    · omega
  have hm3 : W3.heap[m]? = some (.cells #[v] 45) := (hold m c3 hvm).trans hA.blk
  have hres : IsRef B (W3.setCell ⟨m, 0, none⟩ (.slice (some ⟨g', 0, none⟩) (R.length + 1) cap')) m (.slice (some ⟨g', 0, none⟩) (R.length + 1) cap') (R ++ [⟨prev, cell, num, slot, gen, 1, false⟩]) := by
    refine ⟨?_, blk_set hm3 0 _, fun e => hgm (by injection e)⟩
    rw [rnv_snoc, List.length_append]
    refine ownsRow_block hown3 fun b hb => Below.heap_setCell _ _ _ b ?_
    injection hb with hb
    show b ≠ m
    exact fun e => hgm (hb.trans e)
  have hkeep : Keep (YR m v) W (W3.setCell ⟨m, 0, none⟩ (.slice (some ⟨g', 0, none⟩) (R.length + 1) cap')) :=
    ((hkA.drew.alloc _).grown hgr3 fun b hb => .inl (.inr hb)).setCell (p := ⟨m, 0, none⟩) (.inl (.inl rfl)) _
  have hblk := hvb
  have hrunN : Hid ((do pure (Next.value (← Builtin.append_ #[43, 43] 43 #[v, .slice (some ⟨W1.heap.size, 0, none⟩) 1 1])) : Sem Next).run Try.prog (W1.alloc (.cells #[.int .i64 prev, .int .i64 cell, .int .i64 num, .int .i64 slot, .int .i64 gen, .int .i64 1, .bool false] 51)).drew = .ok (.value (.slice (some ⟨g', 0, none⟩) (R.length + 1) cap')) W3) := Lib.hid (by
    have hrun' : (Builtin.append_ #[43, 43] 43 #[v, .slice (some ⟨W1.heap.size, 0, none⟩) 1 1]).run Try.prog (W1.alloc (.cells #[.int .i64 prev, .int .i64 cell, .int .i64 num, .int .i64 slot, .int .i64 gen, .int .i64 1, .bool false] 51)).drew = .ok (.slice (some ⟨g', 0, none⟩) (R.length + 1) cap') W3 := hrun3
    simp only [Sem.run_bind, hrun', Result.andThen, Sem.run_pure])
  have hS : W1.drew.cell? ⟨m, 0, none⟩ = some v ∧ W1.drew.cell? ⟨W.heap.size, 0, none⟩ = some (.int .i64 slot) ∧ W1.drew.cell? ⟨W.heap.size, 1, none⟩ = some (.int .i64 gen) ∧ m < W1.drew.heap.size ∧ W.heap.size < W1.drew.heap.size := ⟨c1, x0, x1, c3, by show W.heap.size < W1.heap.size; omega⟩
  have hs9 : (W1.alloc (.cells #[.int .i64 prev, .int .i64 cell, .int .i64 num, .int .i64 slot, .int .i64 gen, .int .i64 1, .bool false] 51)).drew.cell? ⟨m, 0, none⟩ = some v ∧ (W1.alloc (.cells #[.int .i64 prev, .int .i64 cell, .int .i64 num, .int .i64 slot, .int .i64 gen, .int .i64 1, .bool false] 51)).drew.cell? ⟨W.heap.size, 0, none⟩ = some (.int .i64 slot) ∧ (W1.alloc (.cells #[.int .i64 prev, .int .i64 cell, .int .i64 num, .int .i64 slot, .int .i64 gen, .int .i64 1, .bool false] 51)).drew.cell? ⟨W.heap.size, 1, none⟩ = some (.int .i64 gen) ∧ m < (W1.alloc (.cells #[.int .i64 prev, .int .i64 cell, .int .i64 num, .int .i64 slot, .int .i64 gen, .int .i64 1, .bool false] 51)).drew.heap.size ∧ W.heap.size < (W1.alloc (.cells #[.int .i64 prev, .int .i64 cell, .int .i64 num, .int .i64 slot, .int .i64 gen, .int .i64 1, .bool false] 51)).drew.heap.size :=
    ⟨(World.cell?_alloc_lt W1 _ ⟨m, 0, none⟩ c3).trans c1, (World.cell?_alloc_lt W1 _ ⟨W.heap.size, 0, none⟩ (by show W.heap.size < W1.heap.size; omega)).trans x0, (World.cell?_alloc_lt W1 _ ⟨W.heap.size, 1, none⟩ (by show W.heap.size < W1.heap.size; omega)).trans x1, by simp; omega, by simp; omega⟩
  have hvW : v.ownBlock ≠ some W.heap.size := fun e => by have := hvl _ e; omega
  have hs17 : W3.cell? ⟨m, 0, none⟩ = some v ∧ W3.cell? ⟨W.heap.size, 0, none⟩ = some (.int .i64 slot) ∧ W3.cell? ⟨W.heap.size, 1, none⟩ = some (.int .i64 gen) ∧ m < W3.heap.size ∧ W.heap.size < W3.heap.size := ⟨blk_cell hm3 0, (World.cell?_of_block (w := W1) (a := ⟨W.heap.size, 0, none⟩) (hold W.heap.size (by omega) hvW)).trans x0, (World.cell?_of_block (w := W1) (a := ⟨W.heap.size, 1, none⟩) (hold W.heap.size (by omega) hvW)).trans x1, by omega, by omega⟩
  have f3 : W3.frozen? ⟨m, 0, none⟩ = false := blk_free hm3 0
  have m3 : m < W3.heap.size := by omega
  have y3 := blk_cell hm3 0
  have z3 : (W3.setCell ⟨m, 0, none⟩ (.slice (some ⟨g', 0, none⟩) (R.length + 1) cap')).cell? ⟨m, 0, none⟩ = some (.slice (some ⟨g', 0, none⟩) (R.length + 1) cap') := blk_cell hres.blk 0
  have HZ := Lib.hid (And.intro hat3 (And.intro hgr3 hown3))
  clear hat3 hgr3 hown3 hrun3 hold hvb hm3 hvl hkA hbA
  rcases hyes with ⟨rfl, rfl⟩ | ⟨j, r, rfl, hr, hg, hr0, hr1, hr2, hr5⟩
  case' inl =>
    have hi : isR R (-1) = false := by simp [isR]
    go_enter Try.func29, Try.ntmps29
    go_wp2_with fail
    go_at_call 17
    refine (ris_any hA _).mono ?_
    rintro e w1 ⟨rfl, rfl⟩
    rw [hi]
    go_wp2_with fail
  case' inr =>
    have hi : isR R (j : Int) = true := by simp [isR, hr, hg]
    have h1' : ((j : Int) == -1) = false := by simp
    have h1 : ¬ (j : Int) = -1 := by omega
    rcases hc with ⟨_, e⟩ | ⟨g, cap, rfl, _, hgl, _, _, hcell⟩
    · subst e; simp at hr
    have hjl := (List.getElem?_eq_some_iff.1 hr).1
    have d1 := (hcell j r hr).2.1
    have n1 : ¬ cell < r.cell := by omega
    have n2 : ¬ r.cell + 1 < cell := by omega
    have n3 : ¬ 5 < cell := by omega
    clear hcell hr hg
    go_enter Try.func29, Try.ntmps29
    go_wp2_with fail
    go_at_call 17
    refine (ris_any hA _).mono ?_
    rintro e w1 ⟨rfl, rfl⟩
    rw [hi]
    go_wp2_with fail
  case inl =>
    refine (wpIn_wide (n := 0)).1 ?_
    refine region_goes' (F := Fence.wide) (n := 0) (S := fun w' => w'.cell? ⟨m, 0, none⟩ = some v ∧ w'.cell? ⟨W.heap.size, 0, none⟩ = some (.int .i64 slot) ∧ w'.cell? ⟨W.heap.size, 1, none⟩ = some (.int .i64 gen) ∧ m < w'.heap.size ∧ W.heap.size < w'.heap.size) (last := 14) 15 (l := #[false, false, false, false, false, false, false, false, false, false, false, false, false, false, false]) (fun _ => trivial) (by kernel_rfl) (by kernel_rfl) rfl rfl ?_
    refine goes_take' (i := 0) (d := some 60) (v := .pointer (some ⟨m, 0, none⟩)) (l' := #[true, false, false, false, false, false, false, false, false, false, false, false, false, false, false]) rfl (by kernel_rfl) (by kernel_rfl) (by kernel_rfl) (by kernel_rfl) rfl rfl (.inl ⟨rfl, fun w' hs => ?_⟩) hS ?_
    · obtain ⟨s0, s1, s2, s3, s4⟩ := hs
      go_simp
    simp only [Act.put, List.setIfInBounds_toArray, List.set_cons_zero, List.set_cons_succ]
    refine goes_take' (i := 1) (d := some 61) (v := .pointer (some ⟨m, 0, none⟩)) (l' := #[true, true, false, false, false, false, false, false, false, false, false, false, false, false, false]) rfl (by kernel_rfl) (by kernel_rfl) (by kernel_rfl) (by kernel_rfl) rfl rfl (.inl ⟨rfl, fun w' hs => ?_⟩) hS ?_
    · obtain ⟨s0, s1, s2, s3, s4⟩ := hs
      go_simp
    simp only [Act.put, List.setIfInBounds_toArray, List.set_cons_zero, List.set_cons_succ]
    refine goes_take' (i := 2) (d := some 62) (v := .pointer (some ⟨m, 0, none⟩)) (l' := #[true, true, true, false, false, false, false, false, false, false, false, false, false, false, false]) rfl (by kernel_rfl) (by kernel_rfl) (by kernel_rfl) (by kernel_rfl) rfl rfl (.inl ⟨rfl, fun w' hs => ?_⟩) hS ?_
    · obtain ⟨s0, s1, s2, s3, s4⟩ := hs
      go_simp
    simp only [Act.put, List.setIfInBounds_toArray, List.set_cons_zero, List.set_cons_succ]
    refine goes_take' (i := 3) (d := some 63) (v := .pointer (some ⟨m, 0, none⟩)) (l' := #[true, true, true, true, false, false, false, false, false, false, false, false, false, false, false]) rfl (by kernel_rfl) (by kernel_rfl) (by kernel_rfl) (by kernel_rfl) rfl rfl (.inl ⟨rfl, fun w' hs => ?_⟩) hS ?_
    · obtain ⟨s0, s1, s2, s3, s4⟩ := hs
      go_simp
    simp only [Act.put, List.setIfInBounds_toArray, List.set_cons_zero, List.set_cons_succ]
    refine goes_take' (i := 4) (d := some 64) (v := v) (l' := #[true, true, true, true, true, false, false, false, false, false, false, false, false, false, false]) rfl (by kernel_rfl) (by kernel_rfl) (by kernel_rfl) (by kernel_rfl) rfl rfl (.inl ⟨rfl, fun w' hs => ?_⟩) hS ?_
    · obtain ⟨s0, s1, s2, s3, s4⟩ := hs
      go_simp
    simp only [Act.put, List.setIfInBounds_toArray, List.set_cons_zero, List.set_cons_succ]
    refine goes_take' (i := 5) (d := some 65) (v := .int .i64 (-1)) (l' := #[true, true, true, true, true, true, false, false, false, false, false, false, false, false, false]) rfl (by kernel_rfl) (by kernel_rfl) (by kernel_rfl) (by kernel_rfl) rfl rfl (.inl ⟨rfl, fun w' hs => ?_⟩) hS ?_
    · obtain ⟨s0, s1, s2, s3, s4⟩ := hs
      go_simp
    simp only [Act.put, List.setIfInBounds_toArray, List.set_cons_zero, List.set_cons_succ]
    refine goes_take' (i := 6) (d := some 66) (v := .int .i64 0) (l' := #[true, true, true, true, true, true, true, false, false, false, false, false, false, false, false]) rfl (by kernel_rfl) (by kernel_rfl) (by kernel_rfl) (by kernel_rfl) rfl rfl (.inl ⟨rfl, fun w' hs => ?_⟩) hS ?_
    · obtain ⟨s0, s1, s2, s3, s4⟩ := hs
      go_simp
    simp only [Act.put, List.setIfInBounds_toArray, List.set_cons_zero, List.set_cons_succ]
    refine goes_take' (i := 7) (d := some 67) (v := .int .i64 num) (l' := #[true, true, true, true, true, true, true, true, false, false, false, false, false, false, false]) rfl (by kernel_rfl) (by kernel_rfl) (by kernel_rfl) (by kernel_rfl) rfl rfl (.inl ⟨rfl, fun w' hs => ?_⟩) hS ?_
    · obtain ⟨s0, s1, s2, s3, s4⟩ := hs
      go_simp
    simp only [Act.put, List.setIfInBounds_toArray, List.set_cons_zero, List.set_cons_succ]
    refine goes_take' (i := 8) (d := some 68) (v := .agg #[.int .i64 slot, .int .i64 gen]) (l' := #[true, true, true, true, true, true, true, true, true, false, false, false, false, false, false]) rfl (by kernel_rfl) (by kernel_rfl) (by kernel_rfl) (by kernel_rfl) rfl rfl (.inl ⟨rfl, fun w' hs => ?_⟩) hS ?_
    · obtain ⟨s0, s1, s2, s3, s4⟩ := hs
      go_simp
    simp only [Act.put, List.setIfInBounds_toArray, List.set_cons_zero, List.set_cons_succ]
    refine goes_take' (i := 9) (d := some 69) (v := .agg #[.int .i64 (-1), .int .i64 0, .int .i64 num, .int .i64 slot, .int .i64 gen, .int .i64 1, .bool false]) (l' := #[true, true, true, true, true, true, true, true, true, true, false, false, false, false, false]) rfl (by kernel_rfl) (by kernel_rfl) (by kernel_rfl) (by kernel_rfl) rfl rfl (.inl ⟨rfl, fun w' hs => ?_⟩) hS ?_
    · obtain ⟨s0, s1, s2, s3, s4⟩ := hs
      go_simp
    simp only [Act.put, List.setIfInBounds_toArray, List.set_cons_zero, List.set_cons_succ]
    refine goes_one' (i := 10) (l' := #[true, true, true, true, true, true, true, true, true, true, true, false, false, false, false]) (by kernel_rfl) (step_value (d := some 70) (v := .slice (some ⟨W1.heap.size, 0, none⟩) 1 1) (w' := (W1.alloc (.cells #[.int .i64 (-1), .int .i64 0, .int .i64 num, .int .i64 slot, .int .i64 gen, .int .i64 1, .bool false] 51)).drew) rfl rfl rfl (by go_simp)) rfl (.inr hs9) ?_
    simp only [Act.put, List.setIfInBounds_toArray, List.set_cons_zero, List.set_cons_succ]
    refine goes_one' (i := 11) (l' := #[true, true, true, true, true, true, true, true, true, true, true, true, false, false, false]) (by kernel_rfl) (step_value (d := some 71) (v := .slice (some ⟨g', 0, none⟩) (R.length + 1) cap') (w' := W3) rfl rfl rfl (by simp only [List.getElem_toArray, List.getElem_cons_succ, List.getElem_cons_zero, BigFrame.execOp_builtin, BigFrame.builtin_append, List.map_toArray, List.map_cons, List.map_nil]; exact hrunN.out)) rfl (.inr hs17) ?_
    simp only [Act.put, List.setIfInBounds_toArray, List.set_cons_zero, List.set_cons_succ]
    refine goes_one' (i := 12) (l' := #[true, true, true, true, true, true, true, true, true, true, true, true, true, false, false]) (by kernel_rfl) (step_value (d := some 72) (v := .pointer (some ⟨m, 0, none⟩)) (w' := W3) rfl rfl rfl (by go_simp)) rfl (.inr hs17) ?_
    simp only [Act.put, List.setIfInBounds_toArray, List.set_cons_zero, List.set_cons_succ]
    refine goes_one' (i := 13) (l' := #[true, true, true, true, true, true, true, true, true, true, true, true, true, true, false]) (by kernel_rfl) (step_value (d := some 73) (v := .pointer (some ⟨m, 0, none⟩)) (w' := W3) rfl rfl rfl (by go_simp)) rfl (.inr hs17) ?_
    simp only [Act.put, List.setIfInBounds_toArray, List.set_cons_zero, List.set_cons_succ]
    refine goes_one' (i := 14) (l' := #[true, true, true, true, true, true, true, true, true, true, true, true, true, true, true]) (by kernel_rfl) (step_skip (d := none) (w' := W3.setCell ⟨m, 0, none⟩ (.slice (some ⟨g', 0, none⟩) (R.length + 1) cap')) rfl rfl rfl (by go_simp)) rfl (.inl rfl) ?_
    refine goes_done (by kernel_rfl) ?_
    simp only [Act.put]
    go_wp2_with fail
    go_ret2
    exact ⟨rfl, _, hres, hkeep, hblk⟩
  case inr =>
    refine (wpIn_wide (n := 0)).1 ?_
    refine region_goes' (F := Fence.wide) (n := 0) (S := fun w' => w'.cell? ⟨m, 0, none⟩ = some (.slice (some ⟨g, 0, none⟩) R.length cap) ∧ w'.cell? ⟨W.heap.size, 0, none⟩ = some (.int .i64 slot) ∧ w'.cell? ⟨W.heap.size, 1, none⟩ = some (.int .i64 gen) ∧ m < w'.heap.size ∧ W.heap.size < w'.heap.size) (last := 14) 15 (l := #[false, false, false, false, false, false, false, false, false, false, false, false, false, false, false]) (fun _ => trivial) (by kernel_rfl) (by kernel_rfl) rfl rfl ?_
    refine goes_take' (i := 0) (d := some 60) (v := .pointer (some ⟨m, 0, none⟩)) (l' := #[true, false, false, false, false, false, false, false, false, false, false, false, false, false, false]) rfl (by kernel_rfl) (by kernel_rfl) (by kernel_rfl) (by kernel_rfl) rfl rfl (.inl ⟨rfl, fun w' hs => ?_⟩) hS ?_
    · obtain ⟨s0, s1, s2, s3, s4⟩ := hs
      go_simp
    simp only [Act.put, List.setIfInBounds_toArray, List.set_cons_zero, List.set_cons_succ]
    refine goes_take' (i := 1) (d := some 61) (v := .pointer (some ⟨m, 0, none⟩)) (l' := #[true, true, false, false, false, false, false, false, false, false, false, false, false, false, false]) rfl (by kernel_rfl) (by kernel_rfl) (by kernel_rfl) (by kernel_rfl) rfl rfl (.inl ⟨rfl, fun w' hs => ?_⟩) hS ?_
    · obtain ⟨s0, s1, s2, s3, s4⟩ := hs
      go_simp
    simp only [Act.put, List.setIfInBounds_toArray, List.set_cons_zero, List.set_cons_succ]
    refine goes_take' (i := 2) (d := some 62) (v := .pointer (some ⟨m, 0, none⟩)) (l' := #[true, true, true, false, false, false, false, false, false, false, false, false, false, false, false]) rfl (by kernel_rfl) (by kernel_rfl) (by kernel_rfl) (by kernel_rfl) rfl rfl (.inl ⟨rfl, fun w' hs => ?_⟩) hS ?_
    · obtain ⟨s0, s1, s2, s3, s4⟩ := hs
      go_simp
    simp only [Act.put, List.setIfInBounds_toArray, List.set_cons_zero, List.set_cons_succ]
    refine goes_take' (i := 3) (d := some 63) (v := .pointer (some ⟨m, 0, none⟩)) (l' := #[true, true, true, true, false, false, false, false, false, false, false, false, false, false, false]) rfl (by kernel_rfl) (by kernel_rfl) (by kernel_rfl) (by kernel_rfl) rfl rfl (.inl ⟨rfl, fun w' hs => ?_⟩) hS ?_
    · obtain ⟨s0, s1, s2, s3, s4⟩ := hs
      go_simp
    simp only [Act.put, List.setIfInBounds_toArray, List.set_cons_zero, List.set_cons_succ]
    refine goes_take' (i := 4) (d := some 64) (v := (.slice (some ⟨g, 0, none⟩) R.length cap)) (l' := #[true, true, true, true, true, false, false, false, false, false, false, false, false, false, false]) rfl (by kernel_rfl) (by kernel_rfl) (by kernel_rfl) (by kernel_rfl) rfl rfl (.inl ⟨rfl, fun w' hs => ?_⟩) hS ?_
    · obtain ⟨s0, s1, s2, s3, s4⟩ := hs
      go_simp
    simp only [Act.put, List.setIfInBounds_toArray, List.set_cons_zero, List.set_cons_succ]
    refine goes_take' (i := 5) (d := some 65) (v := .int .i64 (j : Int)) (l' := #[true, true, true, true, true, true, false, false, false, false, false, false, false, false, false]) rfl (by kernel_rfl) (by kernel_rfl) (by kernel_rfl) (by kernel_rfl) rfl rfl (.inl ⟨rfl, fun w' hs => ?_⟩) hS ?_
    · obtain ⟨s0, s1, s2, s3, s4⟩ := hs
      go_simp
    simp only [Act.put, List.setIfInBounds_toArray, List.set_cons_zero, List.set_cons_succ]
    refine goes_take' (i := 6) (d := some 66) (v := .int .i64 cell) (l' := #[true, true, true, true, true, true, true, false, false, false, false, false, false, false, false]) rfl (by kernel_rfl) (by kernel_rfl) (by kernel_rfl) (by kernel_rfl) rfl rfl (.inl ⟨rfl, fun w' hs => ?_⟩) hS ?_
    · obtain ⟨s0, s1, s2, s3, s4⟩ := hs
      go_simp
    simp only [Act.put, List.setIfInBounds_toArray, List.set_cons_zero, List.set_cons_succ]
    refine goes_take' (i := 7) (d := some 67) (v := .int .i64 num) (l' := #[true, true, true, true, true, true, true, true, false, false, false, false, false, false, false]) rfl (by kernel_rfl) (by kernel_rfl) (by kernel_rfl) (by kernel_rfl) rfl rfl (.inl ⟨rfl, fun w' hs => ?_⟩) hS ?_
    · obtain ⟨s0, s1, s2, s3, s4⟩ := hs
      go_simp
    simp only [Act.put, List.setIfInBounds_toArray, List.set_cons_zero, List.set_cons_succ]
    refine goes_take' (i := 8) (d := some 68) (v := .agg #[.int .i64 slot, .int .i64 gen]) (l' := #[true, true, true, true, true, true, true, true, true, false, false, false, false, false, false]) rfl (by kernel_rfl) (by kernel_rfl) (by kernel_rfl) (by kernel_rfl) rfl rfl (.inl ⟨rfl, fun w' hs => ?_⟩) hS ?_
    · obtain ⟨s0, s1, s2, s3, s4⟩ := hs
      go_simp
    simp only [Act.put, List.setIfInBounds_toArray, List.set_cons_zero, List.set_cons_succ]
    refine goes_take' (i := 9) (d := some 69) (v := .agg #[.int .i64 (j : Int), .int .i64 cell, .int .i64 num, .int .i64 slot, .int .i64 gen, .int .i64 1, .bool false]) (l' := #[true, true, true, true, true, true, true, true, true, true, false, false, false, false, false]) rfl (by kernel_rfl) (by kernel_rfl) (by kernel_rfl) (by kernel_rfl) rfl rfl (.inl ⟨rfl, fun w' hs => ?_⟩) hS ?_
    · obtain ⟨s0, s1, s2, s3, s4⟩ := hs
      go_simp
    simp only [Act.put, List.setIfInBounds_toArray, List.set_cons_zero, List.set_cons_succ]
    refine goes_one' (i := 10) (l' := #[true, true, true, true, true, true, true, true, true, true, true, false, false, false, false]) (by kernel_rfl) (step_value (d := some 70) (v := .slice (some ⟨W1.heap.size, 0, none⟩) 1 1) (w' := (W1.alloc (.cells #[.int .i64 (j : Int), .int .i64 cell, .int .i64 num, .int .i64 slot, .int .i64 gen, .int .i64 1, .bool false] 51)).drew) rfl rfl rfl (by go_simp)) rfl (.inr hs9) ?_
    simp only [Act.put, List.setIfInBounds_toArray, List.set_cons_zero, List.set_cons_succ]
    refine goes_one' (i := 11) (l' := #[true, true, true, true, true, true, true, true, true, true, true, true, false, false, false]) (by kernel_rfl) (step_value (d := some 71) (v := .slice (some ⟨g', 0, none⟩) (R.length + 1) cap') (w' := W3) rfl rfl rfl (by simp only [List.getElem_toArray, List.getElem_cons_succ, List.getElem_cons_zero, BigFrame.execOp_builtin, BigFrame.builtin_append, List.map_toArray, List.map_cons, List.map_nil]; exact hrunN.out)) rfl (.inr hs17) ?_
    simp only [Act.put, List.setIfInBounds_toArray, List.set_cons_zero, List.set_cons_succ]
    refine goes_one' (i := 12) (l' := #[true, true, true, true, true, true, true, true, true, true, true, true, true, false, false]) (by kernel_rfl) (step_value (d := some 72) (v := .pointer (some ⟨m, 0, none⟩)) (w' := W3) rfl rfl rfl (by go_simp)) rfl (.inr hs17) ?_
    simp only [Act.put, List.setIfInBounds_toArray, List.set_cons_zero, List.set_cons_succ]
    refine goes_one' (i := 13) (l' := #[true, true, true, true, true, true, true, true, true, true, true, true, true, true, false]) (by kernel_rfl) (step_value (d := some 73) (v := .pointer (some ⟨m, 0, none⟩)) (w' := W3) rfl rfl rfl (by go_simp)) rfl (.inr hs17) ?_
    simp only [Act.put, List.setIfInBounds_toArray, List.set_cons_zero, List.set_cons_succ]
    refine goes_one' (i := 14) (l' := #[true, true, true, true, true, true, true, true, true, true, true, true, true, true, true]) (by kernel_rfl) (step_skip (d := none) (w' := W3.setCell ⟨m, 0, none⟩ (.slice (some ⟨g', 0, none⟩) (R.length + 1) cap')) rfl rfl rfl (by go_simp)) rfl (.inl rfl) ?_
    refine goes_done (by kernel_rfl) ?_
    simp only [Act.put]
    go_wp2_with fail
    go_ret2
    exact ⟨rfl, _, hres, hkeep, hblk⟩

end Go.Proofs.Ythflfafenehofaa
