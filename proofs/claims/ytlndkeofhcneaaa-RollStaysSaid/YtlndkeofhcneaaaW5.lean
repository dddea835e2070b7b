/-
  The walk of Add: an entry is added. (Printed by mkr5.py.)
-/
import Derived.Test.YtlndkeofhcneaaaW4
import Derived.Test.YtlndkeofhcneaaaApp
namespace Go.Proofs.Ytlndkeofhcneaaa
open Go.RowKit Go.Shelf

attribute [local go_sem] Oper.semAt_some

set_option maxHeartbeats 2000000 in
set_option maxRecDepth 100000 in
theorem add_yes {W : World} {r v : Value} {C : List EN} (h : IsRoll W r v C) (id : Int) (sp : Option Addr) (sn sc : Nat) (win : Int) (hl : C.length ≤ 900) (htab : TabOK W (.slice sp sn sc) win)
    (hyes : 0 ≤ id ∧ ∀ e, C[C.length - 1]? = some e → e.id < id) :
    Calls Try.prog 11 #[r, .int .i64 id, tabV sp sn sc win] W fun e w' => Below W.heap.size W w' ∧ ∃ r' v', e = .returned (.tuple #[r', .bool true]) ∧ IsRoll w' r' v' (C ++ [⟨id, -1, win, sp, sn, sc⟩]) := by
  have hbA := below_alloc W (.cells #[.slice sp sn sc, .int .i64 win, .bool false] 38)
  have hA := h.below hbA
  have htA := htab.below hbA
  have hz := blk_new W (.cells #[.slice sp sn sc, .int .i64 win, .bool false] 38)
  have hsA : (W.alloc (.cells #[.slice sp sn sc, .int .i64 win, .bool false] 38)).heap.size = W.heap.size + 1 := World.size_alloc _ _
  unfold tabV
  obtain ⟨W1, hW1⟩ : ∃ W1, (W.alloc (.cells #[.slice sp sn sc, .int .i64 win, .bool false] 38)) = W1 := ⟨_, rfl⟩
  rw [hW1] at hbA hA htA hz hsA
  obtain ⟨p, cap, hv⟩ := hA.ents.slice
  obtain ⟨cap', W3, hrun3, hents3, hs3, hb3⟩ := app_grow (W := W1.drew) (p := p) (cap := cap) (show IsEnts W1.drew _ _ from hv ▸ hA.ents.below (below_drew _)) (by omega) ⟨id, -1, win, sp, sn, sc⟩ htA 25
  have hsD : W1.drew.heap.size = W.heap.size + 1 := hsA
  rw [hsD] at hrun3 hents3 hs3
  have hrunN : Hid ((do pure (Next.value (← Builtin.append_ #[25, 25] 25 #[.slice p C.length C.length, .slice (some ⟨W.heap.size + 1, 0, none⟩) 1 1])) : Sem Next).run Try.prog (W1.alloc (.cells #[.int .i64 id, .int .i64 (-1), .slice sp sn sc, .int .i64 win, .bool false] 48)).drew = .ok (.value (.slice (some ⟨W.heap.size + 1 + 1, 0, none⟩) (C.length + 1) cap')) W3) := Lib.hid (by
    have hrun' : (Builtin.append_ #[25, 25] 25 #[.slice p C.length C.length, .slice (some ⟨W.heap.size + 1, 0, none⟩) 1 1]).run Try.prog (W1.alloc (.cells #[.int .i64 id, .int .i64 (-1), .slice sp sn sc, .int .i64 win, .bool false] 48)).drew = .ok (.slice (some ⟨W.heap.size + 1 + 1, 0, none⟩) (C.length + 1) cap') W3 := hrun3
    simp only [Sem.run_bind, hrun', Result.andThen, Sem.run_pure])
  have hb13 : Below W1.heap.size W1 W3 := below_then (below_drew W1) hb3
  have lif : ∀ (X : World), Below W1.heap.size W1 X → X.cell? ⟨W.heap.size, 0, none⟩ = some (.slice sp sn sc) ∧ X.cell? ⟨W.heap.size, 1, none⟩ = some (.int .i64 win) ∧ X.cell? ⟨W.heap.size, 2, none⟩ = some (.bool false) ∧ W.heap.size < X.heap.size := fun X hX =>
    ⟨(hX.cell (p := ⟨W.heap.size, 0, none⟩) (by show W.heap.size < W1.heap.size; omega)).trans (blk_cell hz 0), (hX.cell (p := ⟨W.heap.size, 1, none⟩) (by show W.heap.size < W1.heap.size; omega)).trans (blk_cell hz 1), (hX.cell (p := ⟨W.heap.size, 2, none⟩) (by show W.heap.size < W1.heap.size; omega)).trans (blk_cell hz 2), by have := hX.size; omega⟩
  have hS : W1.drew.cell? ⟨W.heap.size, 0, none⟩ = some (.slice sp sn sc) ∧ W1.drew.cell? ⟨W.heap.size, 1, none⟩ = some (.int .i64 win) ∧ W1.drew.cell? ⟨W.heap.size, 2, none⟩ = some (.bool false) ∧ W.heap.size < W1.drew.heap.size := lif _ (below_drew _)
  have hs9 : (W1.alloc (.cells #[.int .i64 id, .int .i64 (-1), .slice sp sn sc, .int .i64 win, .bool false] 48)).drew.cell? ⟨W.heap.size, 0, none⟩ = some (.slice sp sn sc) ∧ (W1.alloc (.cells #[.int .i64 id, .int .i64 (-1), .slice sp sn sc, .int .i64 win, .bool false] 48)).drew.cell? ⟨W.heap.size, 1, none⟩ = some (.int .i64 win) ∧ (W1.alloc (.cells #[.int .i64 id, .int .i64 (-1), .slice sp sn sc, .int .i64 win, .bool false] 48)).drew.cell? ⟨W.heap.size, 2, none⟩ = some (.bool false) ∧ W.heap.size < (W1.alloc (.cells #[.int .i64 id, .int .i64 (-1), .slice sp sn sc, .int .i64 win, .bool false] 48)).drew.heap.size := lif _ (below_then (below_drew W1) (below_alloc _ _))
  have hs10 : W3.cell? ⟨W.heap.size, 0, none⟩ = some (.slice sp sn sc) ∧ W3.cell? ⟨W.heap.size, 1, none⟩ = some (.int .i64 win) ∧ W3.cell? ⟨W.heap.size, 2, none⟩ = some (.bool false) ∧ W.heap.size < W3.heap.size := lif _ hb13
  have hb4 : Below W.heap.size W (W3.alloc (.cells #[.slice (some ⟨W.heap.size + 1 + 1, 0, none⟩) (C.length + 1) cap'] 58)) := below_then hbA (below_then hb13 (below_alloc _ _))
  have hs12 : (W3.alloc (.cells #[.slice (some ⟨W.heap.size + 1 + 1, 0, none⟩) (C.length + 1) cap'] 58)).cell? ⟨W.heap.size, 0, none⟩ = some (.slice sp sn sc) ∧ (W3.alloc (.cells #[.slice (some ⟨W.heap.size + 1 + 1, 0, none⟩) (C.length + 1) cap'] 58)).cell? ⟨W.heap.size, 1, none⟩ = some (.int .i64 win) ∧ (W3.alloc (.cells #[.slice (some ⟨W.heap.size + 1 + 1, 0, none⟩) (C.length + 1) cap'] 58)).cell? ⟨W.heap.size, 2, none⟩ = some (.bool false) ∧ W.heap.size < (W3.alloc (.cells #[.slice (some ⟨W.heap.size + 1 + 1, 0, none⟩) (C.length + 1) cap'] 58)).heap.size := lif _ (below_then hb13 (below_alloc _ _))
  have HZ := Lib.hid (And.intro hb4 (⟨.inr ⟨_, rfl, blk_new W3 _⟩, hents3.below (below_alloc W3 _)⟩ : IsRoll (W3.alloc (.cells #[.slice (some ⟨W.heap.size + 1 + 1, 0, none⟩) (C.length + 1) cap'] 58)) (.pointer (some ⟨W3.heap.size, 0, none⟩)) (.slice (some ⟨W.heap.size + 1 + 1, 0, none⟩) (C.length + 1) cap') (C ++ [⟨id, -1, win, sp, sn, sc⟩])))
  have HA := Lib.hid hA
  obtain ⟨h0, hlast⟩ := hyes
  have x1 : ¬ id < 0 := by omega
  rcases hA.ents.cells with ⟨rfl, rfl⟩ | ⟨g, cap2, rfl, hg, hcap, hfr, hcell⟩
  · injection hv with hv1 hv2 hv3
    subst hv1
    clear hv2 hv3
    have hrunM : Hid _ := Lib.hid (by have h := hrunN.out; simp only [List.length_nil] at h; exact h)
    clear h hbA hA htA hz htab hlast hrun3 hents3 hb3 hb13 hb4 lif hrunN
    go_enter Try.func11, Try.ntmps11
    go_wp2_with fail
    go_at_call 21
    refine (all_any HA.out).mono ?_
    rintro e w1 ⟨rfl, hw1⟩
    rw [hw1]
    clear hw1 w1
    go_wp2_with fail
    refine (wpIn_wide (n := 0)).1 ?_
    refine region_goes' (F := Fence.wide) (n := 0) (S := fun w' => w'.cell? ⟨W.heap.size, 0, none⟩ = some (.slice sp sn sc) ∧ w'.cell? ⟨W.heap.size, 1, none⟩ = some (.int .i64 win) ∧ w'.cell? ⟨W.heap.size, 2, none⟩ = some (.bool false) ∧ W.heap.size < w'.heap.size) (last := 14) 15 (l := #[false, false, false, false, false, false, false, false, false, false, false, false, false, false, false]) (fun _ => trivial) (by kernel_rfl) (by kernel_rfl) rfl rfl ?_
    refine goes_take' (i := 0) (d := some 30) (v := .slice none 0 0) (l' := #[true, false, false, false, false, false, false, false, false, false, false, false, false, false, false]) rfl (by kernel_rfl) (by kernel_rfl) (by kernel_rfl) (by kernel_rfl) rfl rfl (.inl ⟨rfl, fun w' hs => ?_⟩) hS ?_
    · obtain ⟨s0, s1, s2, s3⟩ := hs
      go_simp
    simp only [Act.put, List.setIfInBounds_toArray, List.set_cons_zero, List.set_cons_succ]
    refine goes_take' (i := 1) (d := some 31) (v := .slice none 0 0) (l' := #[true, true, false, false, false, false, false, false, false, false, false, false, false, false, false]) rfl (by kernel_rfl) (by kernel_rfl) (by kernel_rfl) (by kernel_rfl) rfl rfl (.inl ⟨rfl, fun w' hs => ?_⟩) hS ?_
    · obtain ⟨s0, s1, s2, s3⟩ := hs
      go_simp
    simp only [Act.put, List.setIfInBounds_toArray, List.set_cons_zero, List.set_cons_succ]
    refine goes_take' (i := 2) (d := some 32) (v := .int .i64 0) (l' := #[true, true, true, false, false, false, false, false, false, false, false, false, false, false, false]) rfl (by kernel_rfl) (by kernel_rfl) (by kernel_rfl) (by kernel_rfl) rfl rfl (.inl ⟨rfl, fun w' hs => ?_⟩) hS ?_
    · obtain ⟨s0, s1, s2, s3⟩ := hs
      go_simp
    simp only [Act.put, List.setIfInBounds_toArray, List.set_cons_zero, List.set_cons_succ]
    refine goes_take' (i := 3) (d := some 33) (v := .slice none 0 0) (l' := #[true, true, true, true, false, false, false, false, false, false, false, false, false, false, false]) rfl (by kernel_rfl) (by kernel_rfl) (by kernel_rfl) (by kernel_rfl) rfl rfl (.inl ⟨rfl, fun w' hs => ?_⟩) hS ?_
    · obtain ⟨s0, s1, s2, s3⟩ := hs
      go_simp
    simp only [Act.put, List.setIfInBounds_toArray, List.set_cons_zero, List.set_cons_succ]
    refine goes_take' (i := 4) (d := some 34) (v := .int .i64 0) (l' := #[true, true, true, true, true, false, false, false, false, false, false, false, false, false, false]) rfl (by kernel_rfl) (by kernel_rfl) (by kernel_rfl) (by kernel_rfl) rfl rfl (.inl ⟨rfl, fun w' hs => ?_⟩) hS ?_
    · obtain ⟨s0, s1, s2, s3⟩ := hs
      go_simp
    simp only [Act.put, List.setIfInBounds_toArray, List.set_cons_zero, List.set_cons_succ]
    refine goes_take' (i := 5) (d := some 35) (v := .slice none 0 0) (l' := #[true, true, true, true, true, true, false, false, false, false, false, false, false, false, false]) rfl (by kernel_rfl) (by kernel_rfl) (by kernel_rfl) (by kernel_rfl) rfl rfl (.inl ⟨rfl, fun w' hs => ?_⟩) hS ?_
    · obtain ⟨s0, s1, s2, s3⟩ := hs
      go_simp
    simp only [Act.put, List.setIfInBounds_toArray, List.set_cons_zero, List.set_cons_succ]
    refine goes_take' (i := 6) (d := some 36) (v := .int .i64 id) (l' := #[true, true, true, true, true, true, true, false, false, false, false, false, false, false, false]) rfl (by kernel_rfl) (by kernel_rfl) (by kernel_rfl) (by kernel_rfl) rfl rfl (.inl ⟨rfl, fun w' hs => ?_⟩) hS ?_
    · obtain ⟨s0, s1, s2, s3⟩ := hs
      go_simp
    simp only [Act.put, List.setIfInBounds_toArray, List.set_cons_zero, List.set_cons_succ]
    refine goes_take' (i := 7) (d := some 37) (v := .agg #[.slice sp sn sc, .int .i64 win, .bool false]) (l' := #[true, true, true, true, true, true, true, true, false, false, false, false, false, false, false]) rfl (by kernel_rfl) (by kernel_rfl) (by kernel_rfl) (by kernel_rfl) rfl rfl (.inl ⟨rfl, fun w' hs => ?_⟩) hS ?_
    · obtain ⟨s0, s1, s2, s3⟩ := hs
      go_simp
    simp only [Act.put, List.setIfInBounds_toArray, List.set_cons_zero, List.set_cons_succ]
    refine goes_take' (i := 8) (d := some 38) (v := .agg #[.int .i64 id, .int .i64 (-1), .slice sp sn sc, .int .i64 win, .bool false]) (l' := #[true, true, true, true, true, true, true, true, true, false, false, false, false, false, false]) rfl (by kernel_rfl) (by kernel_rfl) (by kernel_rfl) (by kernel_rfl) rfl rfl (.inl ⟨rfl, fun w' hs => ?_⟩) hS ?_
    · obtain ⟨s0, s1, s2, s3⟩ := hs
      go_simp
    simp only [Act.put, List.setIfInBounds_toArray, List.set_cons_zero, List.set_cons_succ]
    refine goes_one' (i := 9) (l' := #[true, true, true, true, true, true, true, true, true, true, false, false, false, false, false]) (by kernel_rfl) (step_value (d := some 39) (v := .slice (some ⟨W.heap.size + 1, 0, none⟩) 1 1) (w' := (W1.alloc (.cells #[.int .i64 id, .int .i64 (-1), .slice sp sn sc, .int .i64 win, .bool false] 48)).drew) rfl rfl rfl (by go_simp)) rfl (.inr hs9) ?_
    simp only [Act.put, List.setIfInBounds_toArray, List.set_cons_zero, List.set_cons_succ]
    refine goes_one' (i := 10) (l' := #[true, true, true, true, true, true, true, true, true, true, true, false, false, false, false]) (by kernel_rfl) (step_value (d := some 40) (v := .slice (some ⟨W.heap.size + 1 + 1, 0, none⟩) (0 + 1) cap') (w' := W3) rfl rfl rfl (by simp only [List.getElem_toArray, List.getElem_cons_succ, List.getElem_cons_zero, BigFrame.execOp_builtin, BigFrame.builtin_append, List.map_toArray, List.map_cons, List.map_nil]; exact hrunM.out)) rfl (.inr hs10) ?_
    simp only [Act.put, List.setIfInBounds_toArray, List.set_cons_zero, List.set_cons_succ]
    refine goes_one' (i := 11) (l' := #[true, true, true, true, true, true, true, true, true, true, true, true, false, false, false]) (by kernel_rfl) (step_value (d := some 41) (v := .agg #[.slice (some ⟨W.heap.size + 1 + 1, 0, none⟩) (0 + 1) cap']) (w' := W3) rfl rfl rfl (by go_simp)) rfl (.inr hs10) ?_
    simp only [Act.put, List.setIfInBounds_toArray, List.set_cons_zero, List.set_cons_succ]
    refine goes_one' (i := 12) (l' := #[true, true, true, true, true, true, true, true, true, true, true, true, true, false, false]) (by kernel_rfl) (step_value (d := some 42) (v := .pointer (some ⟨W3.heap.size, 0, none⟩)) (w' := W3.alloc (.cells #[.slice (some ⟨W.heap.size + 1 + 1, 0, none⟩) (0 + 1) cap'] 58)) rfl rfl rfl (by go_simp)) rfl (.inr hs12) ?_
    simp only [Act.put, List.setIfInBounds_toArray, List.set_cons_zero, List.set_cons_succ]
    refine goes_one' (i := 13) (l' := #[true, true, true, true, true, true, true, true, true, true, true, true, true, true, false]) (by kernel_rfl) (step_value (d := some 6) (v := .pointer (some ⟨W3.heap.size, 0, none⟩)) (w' := W3.alloc (.cells #[.slice (some ⟨W.heap.size + 1 + 1, 0, none⟩) (0 + 1) cap'] 58)) rfl rfl rfl (by go_simp)) rfl (.inr hs12) ?_
    simp only [Act.put, List.setIfInBounds_toArray, List.set_cons_zero, List.set_cons_succ]
    refine goes_one' (i := 14) (l' := #[true, true, true, true, true, true, true, true, true, true, true, true, true, true, true]) (by kernel_rfl) (step_value (d := some 7) (v := .bool true) (w' := W3.alloc (.cells #[.slice (some ⟨W.heap.size + 1 + 1, 0, none⟩) (0 + 1) cap'] 58)) rfl rfl rfl (by go_simp)) rfl (.inl rfl) ?_
    refine goes_done (by kernel_rfl) ?_
    simp only [Act.put, List.setIfInBounds_toArray, List.set_cons_zero, List.set_cons_succ]
    go_wp2_with fail
    go_ret2
    exact ⟨HZ.out.1, _, _, rfl, HZ.out.2⟩
  · injection hv with hv1 hv2 hv3
    subst hv1
    clear hv2 hv3
    by_cases hn : C.length = 0
    · have hrunM : Hid _ := Lib.hid (by have h := hrunN.out; rw [hn] at h; exact h)
      have HZ2 : Hid _ := Lib.hid (by have h := HZ.out; rw [hn] at h; exact h)
      rw [hn] at hs12
      clear h hbA hA htA hz htab hlast hrun3 hents3 hb3 hb13 hb4 lif hcell hfr hrunN HZ
      go_enter Try.func11, Try.ntmps11
      go_wp2_with fail
      go_at_call 21
      refine (all_any HA.out).mono ?_
      rintro e w1 ⟨rfl, hw1⟩
      rw [hw1]
      clear hw1 w1
      go_wp2_with fail
      refine (wpIn_wide (n := 0)).1 ?_
      refine region_goes' (F := Fence.wide) (n := 0) (S := fun w' => w'.cell? ⟨W.heap.size, 0, none⟩ = some (.slice sp sn sc) ∧ w'.cell? ⟨W.heap.size, 1, none⟩ = some (.int .i64 win) ∧ w'.cell? ⟨W.heap.size, 2, none⟩ = some (.bool false) ∧ W.heap.size < w'.heap.size) (last := 14) 15 (l := #[false, false, false, false, false, false, false, false, false, false, false, false, false, false, false]) (fun _ => trivial) (by kernel_rfl) (by kernel_rfl) rfl rfl ?_
      refine goes_take' (i := 0) (d := some 30) (v := .slice (some ⟨g, 0, none⟩) 0 cap2) (l' := #[true, false, false, false, false, false, false, false, false, false, false, false, false, false, false]) rfl (by kernel_rfl) (by kernel_rfl) (by kernel_rfl) (by kernel_rfl) rfl rfl (.inl ⟨rfl, fun w' hs => ?_⟩) hS ?_
      · obtain ⟨s0, s1, s2, s3⟩ := hs
        go_simp
      simp only [Act.put, List.setIfInBounds_toArray, List.set_cons_zero, List.set_cons_succ]
      refine goes_take' (i := 1) (d := some 31) (v := .slice (some ⟨g, 0, none⟩) 0 cap2) (l' := #[true, true, false, false, false, false, false, false, false, false, false, false, false, false, false]) rfl (by kernel_rfl) (by kernel_rfl) (by kernel_rfl) (by kernel_rfl) rfl rfl (.inl ⟨rfl, fun w' hs => ?_⟩) hS ?_
      · obtain ⟨s0, s1, s2, s3⟩ := hs
        go_simp
      simp only [Act.put, List.setIfInBounds_toArray, List.set_cons_zero, List.set_cons_succ]
      refine goes_take' (i := 2) (d := some 32) (v := .int .i64 0) (l' := #[true, true, true, false, false, false, false, false, false, false, false, false, false, false, false]) rfl (by kernel_rfl) (by kernel_rfl) (by kernel_rfl) (by kernel_rfl) rfl rfl (.inl ⟨rfl, fun w' hs => ?_⟩) hS ?_
      · obtain ⟨s0, s1, s2, s3⟩ := hs
        go_simp
      simp only [Act.put, List.setIfInBounds_toArray, List.set_cons_zero, List.set_cons_succ]
      refine goes_take' (i := 3) (d := some 33) (v := .slice (some ⟨g, 0, none⟩) 0 cap2) (l' := #[true, true, true, true, false, false, false, false, false, false, false, false, false, false, false]) rfl (by kernel_rfl) (by kernel_rfl) (by kernel_rfl) (by kernel_rfl) rfl rfl (.inl ⟨rfl, fun w' hs => ?_⟩) hS ?_
      · obtain ⟨s0, s1, s2, s3⟩ := hs
        go_simp
      simp only [Act.put, List.setIfInBounds_toArray, List.set_cons_zero, List.set_cons_succ]
      refine goes_take' (i := 4) (d := some 34) (v := .int .i64 0) (l' := #[true, true, true, true, true, false, false, false, false, false, false, false, false, false, false]) rfl (by kernel_rfl) (by kernel_rfl) (by kernel_rfl) (by kernel_rfl) rfl rfl (.inl ⟨rfl, fun w' hs => ?_⟩) hS ?_
      · obtain ⟨s0, s1, s2, s3⟩ := hs
        go_simp
      simp only [Act.put, List.setIfInBounds_toArray, List.set_cons_zero, List.set_cons_succ]
      refine goes_take' (i := 5) (d := some 35) (v := .slice (some ⟨g, 0, none⟩) 0 0) (l' := #[true, true, true, true, true, true, false, false, false, false, false, false, false, false, false]) rfl (by kernel_rfl) (by kernel_rfl) (by kernel_rfl) (by kernel_rfl) rfl rfl (.inl ⟨rfl, fun w' hs => ?_⟩) hS ?_
      · obtain ⟨s0, s1, s2, s3⟩ := hs
        go_simp
      simp only [Act.put, List.setIfInBounds_toArray, List.set_cons_zero, List.set_cons_succ]
      refine goes_take' (i := 6) (d := some 36) (v := .int .i64 id) (l' := #[true, true, true, true, true, true, true, false, false, false, false, false, false, false, false]) rfl (by kernel_rfl) (by kernel_rfl) (by kernel_rfl) (by kernel_rfl) rfl rfl (.inl ⟨rfl, fun w' hs => ?_⟩) hS ?_
      · obtain ⟨s0, s1, s2, s3⟩ := hs
        go_simp
      simp only [Act.put, List.setIfInBounds_toArray, List.set_cons_zero, List.set_cons_succ]
      refine goes_take' (i := 7) (d := some 37) (v := .agg #[.slice sp sn sc, .int .i64 win, .bool false]) (l' := #[true, true, true, true, true, true, true, true, false, false, false, false, false, false, false]) rfl (by kernel_rfl) (by kernel_rfl) (by kernel_rfl) (by kernel_rfl) rfl rfl (.inl ⟨rfl, fun w' hs => ?_⟩) hS ?_
      · obtain ⟨s0, s1, s2, s3⟩ := hs
        go_simp
      simp only [Act.put, List.setIfInBounds_toArray, List.set_cons_zero, List.set_cons_succ]
      refine goes_take' (i := 8) (d := some 38) (v := .agg #[.int .i64 id, .int .i64 (-1), .slice sp sn sc, .int .i64 win, .bool false]) (l' := #[true, true, true, true, true, true, true, true, true, false, false, false, false, false, false]) rfl (by kernel_rfl) (by kernel_rfl) (by kernel_rfl) (by kernel_rfl) rfl rfl (.inl ⟨rfl, fun w' hs => ?_⟩) hS ?_
      · obtain ⟨s0, s1, s2, s3⟩ := hs
        go_simp
      simp only [Act.put, List.setIfInBounds_toArray, List.set_cons_zero, List.set_cons_succ]
      refine goes_one' (i := 9) (l' := #[true, true, true, true, true, true, true, true, true, true, false, false, false, false, false]) (by kernel_rfl) (step_value (d := some 39) (v := .slice (some ⟨W.heap.size + 1, 0, none⟩) 1 1) (w' := (W1.alloc (.cells #[.int .i64 id, .int .i64 (-1), .slice sp sn sc, .int .i64 win, .bool false] 48)).drew) rfl rfl rfl (by go_simp)) rfl (.inr hs9) ?_
      simp only [Act.put, List.setIfInBounds_toArray, List.set_cons_zero, List.set_cons_succ]
      refine goes_one' (i := 10) (l' := #[true, true, true, true, true, true, true, true, true, true, true, false, false, false, false]) (by kernel_rfl) (step_value (d := some 40) (v := .slice (some ⟨W.heap.size + 1 + 1, 0, none⟩) (0 + 1) cap') (w' := W3) rfl rfl rfl (by simp only [List.getElem_toArray, List.getElem_cons_succ, List.getElem_cons_zero, BigFrame.execOp_builtin, BigFrame.builtin_append, List.map_toArray, List.map_cons, List.map_nil]; exact hrunM.out)) rfl (.inr hs10) ?_
      simp only [Act.put, List.setIfInBounds_toArray, List.set_cons_zero, List.set_cons_succ]
      refine goes_one' (i := 11) (l' := #[true, true, true, true, true, true, true, true, true, true, true, true, false, false, false]) (by kernel_rfl) (step_value (d := some 41) (v := .agg #[.slice (some ⟨W.heap.size + 1 + 1, 0, none⟩) (0 + 1) cap']) (w' := W3) rfl rfl rfl (by go_simp)) rfl (.inr hs10) ?_
      simp only [Act.put, List.setIfInBounds_toArray, List.set_cons_zero, List.set_cons_succ]
      refine goes_one' (i := 12) (l' := #[true, true, true, true, true, true, true, true, true, true, true, true, true, false, false]) (by kernel_rfl) (step_value (d := some 42) (v := .pointer (some ⟨W3.heap.size, 0, none⟩)) (w' := W3.alloc (.cells #[.slice (some ⟨W.heap.size + 1 + 1, 0, none⟩) (0 + 1) cap'] 58)) rfl rfl rfl (by go_simp)) rfl (.inr hs12) ?_
      simp only [Act.put, List.setIfInBounds_toArray, List.set_cons_zero, List.set_cons_succ]
      refine goes_one' (i := 13) (l' := #[true, true, true, true, true, true, true, true, true, true, true, true, true, true, false]) (by kernel_rfl) (step_value (d := some 6) (v := .pointer (some ⟨W3.heap.size, 0, none⟩)) (w' := W3.alloc (.cells #[.slice (some ⟨W.heap.size + 1 + 1, 0, none⟩) (0 + 1) cap'] 58)) rfl rfl rfl (by go_simp)) rfl (.inr hs12) ?_
      simp only [Act.put, List.setIfInBounds_toArray, List.set_cons_zero, List.set_cons_succ]
      refine goes_one' (i := 14) (l' := #[true, true, true, true, true, true, true, true, true, true, true, true, true, true, true]) (by kernel_rfl) (step_value (d := some 7) (v := .bool true) (w' := W3.alloc (.cells #[.slice (some ⟨W.heap.size + 1 + 1, 0, none⟩) (0 + 1) cap'] 58)) rfl rfl rfl (by go_simp)) rfl (.inl rfl) ?_
      refine goes_done (by kernel_rfl) ?_
      simp only [Act.put, List.setIfInBounds_toArray, List.set_cons_zero, List.set_cons_succ]
      go_wp2_with fail
      go_ret2
      exact ⟨HZ2.out.1, _, _, rfl, HZ2.out.2⟩
    · obtain ⟨e, he⟩ : ∃ e, C[C.length - 1]? = some e := ⟨_, List.getElem?_eq_getElem (by omega)⟩
      have hlt := hlast e he
      obtain ⟨d0, _⟩ := hcell _ _ he
      clear h hbA hA htA hz htab hlast hrun3 hents3 hb3 hb13 hb4 lif hcell hfr he
      go_enter Try.func11, Try.ntmps11
      go_wp2_with fail
      go_at_call 21
      refine (all_any HA.out).mono ?_
      rintro e w1 ⟨rfl, hw1⟩
      rw [hw1]
      clear hw1 w1
      go_wp2_with fail
      refine (wpIn_wide (n := 0)).1 ?_
      refine region_goes' (F := Fence.wide) (n := 0) (S := fun w' => w'.cell? ⟨W.heap.size, 0, none⟩ = some (.slice sp sn sc) ∧ w'.cell? ⟨W.heap.size, 1, none⟩ = some (.int .i64 win) ∧ w'.cell? ⟨W.heap.size, 2, none⟩ = some (.bool false) ∧ W.heap.size < w'.heap.size) (last := 14) 15 (l := #[false, false, false, false, false, false, false, false, false, false, false, false, false, false, false]) (fun _ => trivial) (by kernel_rfl) (by kernel_rfl) rfl rfl ?_
      refine goes_take' (i := 0) (d := some 30) (v := .slice (some ⟨g, 0, none⟩) C.length cap2) (l' := #[true, false, false, false, false, false, false, false, false, false, false, false, false, false, false]) rfl (by kernel_rfl) (by kernel_rfl) (by kernel_rfl) (by kernel_rfl) rfl rfl (.inl ⟨rfl, fun w' hs => ?_⟩) hS ?_
      · obtain ⟨s0, s1, s2, s3⟩ := hs
        go_simp
      simp only [Act.put, List.setIfInBounds_toArray, List.set_cons_zero, List.set_cons_succ]
      refine goes_take' (i := 1) (d := some 31) (v := .slice (some ⟨g, 0, none⟩) C.length cap2) (l' := #[true, true, false, false, false, false, false, false, false, false, false, false, false, false, false]) rfl (by kernel_rfl) (by kernel_rfl) (by kernel_rfl) (by kernel_rfl) rfl rfl (.inl ⟨rfl, fun w' hs => ?_⟩) hS ?_
      · obtain ⟨s0, s1, s2, s3⟩ := hs
        go_simp
      simp only [Act.put, List.setIfInBounds_toArray, List.set_cons_zero, List.set_cons_succ]
      refine goes_take' (i := 2) (d := some 32) (v := .int .i64 (C.length : Int)) (l' := #[true, true, true, false, false, false, false, false, false, false, false, false, false, false, false]) rfl (by kernel_rfl) (by kernel_rfl) (by kernel_rfl) (by kernel_rfl) rfl rfl (.inl ⟨rfl, fun w' hs => ?_⟩) hS ?_
      · obtain ⟨s0, s1, s2, s3⟩ := hs
        go_simp
      simp only [Act.put, List.setIfInBounds_toArray, List.set_cons_zero, List.set_cons_succ]
      refine goes_take' (i := 3) (d := some 33) (v := .slice (some ⟨g, 0, none⟩) C.length cap2) (l' := #[true, true, true, true, false, false, false, false, false, false, false, false, false, false, false]) rfl (by kernel_rfl) (by kernel_rfl) (by kernel_rfl) (by kernel_rfl) rfl rfl (.inl ⟨rfl, fun w' hs => ?_⟩) hS ?_
      · obtain ⟨s0, s1, s2, s3⟩ := hs
        go_simp
      simp only [Act.put, List.setIfInBounds_toArray, List.set_cons_zero, List.set_cons_succ]
      refine goes_take' (i := 4) (d := some 34) (v := .int .i64 (C.length : Int)) (l' := #[true, true, true, true, true, false, false, false, false, false, false, false, false, false, false]) rfl (by kernel_rfl) (by kernel_rfl) (by kernel_rfl) (by kernel_rfl) rfl rfl (.inl ⟨rfl, fun w' hs => ?_⟩) hS ?_
      · obtain ⟨s0, s1, s2, s3⟩ := hs
        go_simp
      simp only [Act.put, List.setIfInBounds_toArray, List.set_cons_zero, List.set_cons_succ]
      refine goes_take' (i := 5) (d := some 35) (v := .slice (some ⟨g, 0, none⟩) C.length C.length) (l' := #[true, true, true, true, true, true, false, false, false, false, false, false, false, false, false]) rfl (by kernel_rfl) (by kernel_rfl) (by kernel_rfl) (by kernel_rfl) rfl rfl (.inl ⟨rfl, fun w' hs => ?_⟩) hS ?_
      · obtain ⟨s0, s1, s2, s3⟩ := hs
        go_simp
      simp only [Act.put, List.setIfInBounds_toArray, List.set_cons_zero, List.set_cons_succ]
      refine goes_take' (i := 6) (d := some 36) (v := .int .i64 id) (l' := #[true, true, true, true, true, true, true, false, false, false, false, false, false, false, false]) rfl (by kernel_rfl) (by kernel_rfl) (by kernel_rfl) (by kernel_rfl) rfl rfl (.inl ⟨rfl, fun w' hs => ?_⟩) hS ?_
      · obtain ⟨s0, s1, s2, s3⟩ := hs
        go_simp
      simp only [Act.put, List.setIfInBounds_toArray, List.set_cons_zero, List.set_cons_succ]
      refine goes_take' (i := 7) (d := some 37) (v := .agg #[.slice sp sn sc, .int .i64 win, .bool false]) (l' := #[true, true, true, true, true, true, true, true, false, false, false, false, false, false, false]) rfl (by kernel_rfl) (by kernel_rfl) (by kernel_rfl) (by kernel_rfl) rfl rfl (.inl ⟨rfl, fun w' hs => ?_⟩) hS ?_
      · obtain ⟨s0, s1, s2, s3⟩ := hs
        go_simp
      simp only [Act.put, List.setIfInBounds_toArray, List.set_cons_zero, List.set_cons_succ]
      refine goes_take' (i := 8) (d := some 38) (v := .agg #[.int .i64 id, .int .i64 (-1), .slice sp sn sc, .int .i64 win, .bool false]) (l' := #[true, true, true, true, true, true, true, true, true, false, false, false, false, false, false]) rfl (by kernel_rfl) (by kernel_rfl) (by kernel_rfl) (by kernel_rfl) rfl rfl (.inl ⟨rfl, fun w' hs => ?_⟩) hS ?_
      · obtain ⟨s0, s1, s2, s3⟩ := hs
        go_simp
      simp only [Act.put, List.setIfInBounds_toArray, List.set_cons_zero, List.set_cons_succ]
      refine goes_one' (i := 9) (l' := #[true, true, true, true, true, true, true, true, true, true, false, false, false, false, false]) (by kernel_rfl) (step_value (d := some 39) (v := .slice (some ⟨W.heap.size + 1, 0, none⟩) 1 1) (w' := (W1.alloc (.cells #[.int .i64 id, .int .i64 (-1), .slice sp sn sc, .int .i64 win, .bool false] 48)).drew) rfl rfl rfl (by go_simp)) rfl (.inr hs9) ?_
      simp only [Act.put, List.setIfInBounds_toArray, List.set_cons_zero, List.set_cons_succ]
      refine goes_one' (i := 10) (l' := #[true, true, true, true, true, true, true, true, true, true, true, false, false, false, false]) (by kernel_rfl) (step_value (d := some 40) (v := .slice (some ⟨W.heap.size + 1 + 1, 0, none⟩) (C.length + 1) cap') (w' := W3) rfl rfl rfl (by simp only [List.getElem_toArray, List.getElem_cons_succ, List.getElem_cons_zero, BigFrame.execOp_builtin, BigFrame.builtin_append, List.map_toArray, List.map_cons, List.map_nil]; exact hrunN.out)) rfl (.inr hs10) ?_
      simp only [Act.put, List.setIfInBounds_toArray, List.set_cons_zero, List.set_cons_succ]
      refine goes_one' (i := 11) (l' := #[true, true, true, true, true, true, true, true, true, true, true, true, false, false, false]) (by kernel_rfl) (step_value (d := some 41) (v := .agg #[.slice (some ⟨W.heap.size + 1 + 1, 0, none⟩) (C.length + 1) cap']) (w' := W3) rfl rfl rfl (by go_simp)) rfl (.inr hs10) ?_
      simp only [Act.put, List.setIfInBounds_toArray, List.set_cons_zero, List.set_cons_succ]
      refine goes_one' (i := 12) (l' := #[true, true, true, true, true, true, true, true, true, true, true, true, true, false, false]) (by kernel_rfl) (step_value (d := some 42) (v := .pointer (some ⟨W3.heap.size, 0, none⟩)) (w' := W3.alloc (.cells #[.slice (some ⟨W.heap.size + 1 + 1, 0, none⟩) (C.length + 1) cap'] 58)) rfl rfl rfl (by go_simp)) rfl (.inr hs12) ?_
      simp only [Act.put, List.setIfInBounds_toArray, List.set_cons_zero, List.set_cons_succ]
      refine goes_one' (i := 13) (l' := #[true, true, true, true, true, true, true, true, true, true, true, true, true, true, false]) (by kernel_rfl) (step_value (d := some 6) (v := .pointer (some ⟨W3.heap.size, 0, none⟩)) (w' := W3.alloc (.cells #[.slice (some ⟨W.heap.size + 1 + 1, 0, none⟩) (C.length + 1) cap'] 58)) rfl rfl rfl (by go_simp)) rfl (.inr hs12) ?_
      simp only [Act.put, List.setIfInBounds_toArray, List.set_cons_zero, List.set_cons_succ]
      refine goes_one' (i := 14) (l' := #[true, true, true, true, true, true, true, true, true, true, true, true, true, true, true]) (by kernel_rfl) (step_value (d := some 7) (v := .bool true) (w' := W3.alloc (.cells #[.slice (some ⟨W.heap.size + 1 + 1, 0, none⟩) (C.length + 1) cap'] 58)) rfl rfl rfl (by go_simp)) rfl (.inl rfl) ?_
      refine goes_done (by kernel_rfl) ?_
      simp only [Act.put, List.setIfInBounds_toArray, List.set_cons_zero, List.set_cons_succ]
      go_wp2_with fail
      go_ret2
      exact ⟨HZ.out.1, _, _, rfl, HZ.out.2⟩

end Go.Proofs.Ytlndkeofhcneaaa
