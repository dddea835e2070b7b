/-
  The walk of the document's End.
-/
import Derived.Test.YtlndkeofhcneaaaW15
namespace Go.Proofs.Ytlndkeofhcneaaa
open Go.RowKit Go.Shelf

attribute [local go_sem] Oper.semAt_some

set_option maxHeartbeats 2000000 in
theorem rEnd_no {W : World} {v : Value} {C : List EN} (h : IsEnts W v C) (hs : Asc C) (id at_ : Int) (hl : C.length ≤ 900)
    (hno : (∀ e ∈ C, e.id ≠ id) ∨ ∃ (k : Nat) (e : EN), C[k]? = some e ∧ e.id = id ∧ (e.to ≠ -1 ∨ at_ ≤ id)) :
    Calls Try.prog 10 #[v, .int .i64 id, .int .i64 at_] W fun e w' => e = .returned (.agg #[v, .bool false]) ∧ Below W.heap.size W w' := by
  obtain ⟨p, cap, rfl⟩ := h.slice
  obtain ⟨W1, e1⟩ : ∃ W1, W.alloc (.cells #[.slice none 0 0, .bool false] 33) = W1 := ⟨_, rfl⟩
  have hb1 : Below W.heap.size W W1 := by rw [← e1]; exact below_alloc _ _
  have z : W1.heap[W.heap.size]? = some (.cells #[.slice none 0 0, .bool false] 33) := by rw [← e1]; exact blk_new _ _
  have zf := blk_free z
  have zl := blk_lt z
  have z0 := blk_cell z 0
  have z1 := blk_cell z 1
  simp only [List.getElem?_toArray, List.getElem?_cons_zero, List.getElem?_cons_succ] at z0 z1
  have HE := Lib.hid (h.below hb1)
  have HB := Lib.hid hb1
  clear hb1 z h
  go_enter Try.func10, Try.ntmps10
  go_wp2_with fail
  go_at_call 20
  refine (rfind_any HE.out (by omega) id).mono ?_
  rintro e w1 ⟨rfl, ⟨k, c, rfl, hc, hid⟩ | ⟨rfl, hnone⟩⟩
  · rcases HE.out.cells with ⟨_, rfl⟩ | ⟨g, cap', ev, hg, hcap, hfr, hcell⟩
    · simp at hc
    injection ev with ev1 ev2 ev3
    subst ev1; subst ev3
    obtain ⟨d0, d1, -, -, -⟩ := hcell _ _ hc
    have hk := (List.getElem?_eq_some_iff.1 hc).1
    have hor : c.to ≠ -1 ∨ at_ ≤ id := by
      rcases hno with hno | ⟨k', e, he, hid', hor⟩
      · exact absurd hid (hno c (List.mem_of_getElem? hc))
      · have := hs.one hc he (hid.trans hid'.symm)
        subst this
        rw [hc] at he
        cases he
        exact hor
    clear hcell hfr ev2 hc hid hno hs
    by_cases hto : c.to = -1
    · have hat := hor.resolve_left (fun h => h hto)
      rw [hto] at d1
      clear hor hto
      go_wp2_with fail
      try simp only [Exit.inBlock, Exit.then]
      refine bodyPost_ret (v := .agg #[.slice (some ⟨g, 0, none⟩) C.length cap, .bool false]) ?_ rfl ⟨rfl, below_sets2 HB.out (Nat.le_refl _) _ _⟩
      rw [results_cell1 rfl]; go_simp
    · clear hor
      go_wp2_with fail
      try simp only [Exit.inBlock, Exit.then]
      refine bodyPost_ret (v := .agg #[.slice (some ⟨g, 0, none⟩) C.length cap, .bool false]) ?_ rfl ⟨rfl, below_sets2 HB.out (Nat.le_refl _) _ _⟩
      rw [results_cell1 rfl]; go_simp
  · clear hno hnone hs
    go_wp2_with fail
    try simp only [Exit.inBlock, Exit.then]
    refine bodyPost_ret (v := .agg #[.slice p C.length cap, .bool false]) ?_ rfl ⟨rfl, below_sets2 HB.out (Nat.le_refl _) _ _⟩
    rw [results_cell1 rfl]; go_simp

/-- Rows stay where the result's cells are set. -/
theorem keep_sets2 {W : World} {b : Nat} {C : Array Value} (h : W.heap[b]? = some (.cells C 33)) (u0 u1 : Value) : KeepT (· = 33) W ((W.setCell ⟨b, 0, none⟩ u0).setCell ⟨b, 1, none⟩ u1) := by
  refine ⟨by simp [World.setCell], fun k C' t hbb ht => ?_⟩
  have hne : k ≠ b := fun e => by subst e; rw [hbb] at h; injection h with h; injection h with _ h; exact ht h
  rw [Below.heap_setCell _ _ _ _ hne, Below.heap_setCell _ _ _ _ hne]
  exact hbb

set_option maxHeartbeats 2000000 in
theorem rEnd_yes {W : World} {v : Value} {C : List EN} (h : IsEnts W v C) (hs : Asc C) (id at_ : Int) (hl : C.length ≤ 900) (i : Nat) (c : EN) (hc : C[i]? = some c) (hid : c.id = id) (hto : c.to = -1) (hat : id < at_) :
    Calls Try.prog 10 #[v, .int .i64 id, .int .i64 at_] W fun e w' => Below W.heap.size W w' ∧ ∃ v', e = .returned (.agg #[v', .bool true]) ∧ IsEnts w' v' (C.set i { c with to := at_ }) := by
  obtain ⟨p, cap, rfl⟩ := h.slice
  obtain ⟨W1, e1⟩ : ∃ W1, W.alloc (.cells #[.slice none 0 0, .bool false] 33) = W1 := ⟨_, rfl⟩
  have hb1 : Below W.heap.size W W1 := by rw [← e1]; exact below_alloc _ _
  have z : W1.heap[W.heap.size]? = some (.cells #[.slice none 0 0, .bool false] 33) := by rw [← e1]; exact blk_new _ _
  have zl1 := blk_lt z
  have hE := h.below hb1
  obtain ⟨v2, W2, hrun2, hown2, hb2⟩ := app_copy hE (by omega) 25
  have hil := (List.getElem?_eq_some_iff.1 hc).1
  obtain ⟨g', cap', rfl, hg'⟩ : ∃ g' cap', v2 = .slice (some ⟨g', 0, none⟩) C.length cap' ∧ W1.heap.size ≤ g' := by
    rcases hown2.2 with ⟨_, h0⟩ | ⟨g', cap', cur, rfl, hg', _⟩
    · omega
    · exact ⟨g', cap', rfl, hg'⟩
  have hents2 : IsEnts W2 (.slice (some ⟨g', 0, none⟩) C.length cap') C := ⟨ownsRow_zero hown2, fun e he => (hE.tab e he).below hb2⟩
  rcases hents2.cells with ⟨h1, _⟩ | ⟨g2, cap2, h1, hg2, hcap2, hfr2, hcell2⟩
  · cases h1
  cases h1
  obtain ⟨m0, m1, -, -, -⟩ := hcell2 _ _ hc
  have f1 := hfr2 (i * 5 + 1)
  have hb4 := below_set (p := ⟨g', i * 5 + 1, none⟩) hb2 (by show W1.heap.size ≤ g'; omega) (.int .i64 at_)
  have hents3 := hents2.setTo hc at_ fun e he => (hE.tab e he).below hb4
  have z4 := (hb4.block _ zl1).trans z
  have zf := blk_free z4
  have zl := blk_lt z4
  have z0 := blk_cell z4 0
  have z1 := blk_cell z4 1
  simp only [List.getElem?_toArray, List.getElem?_cons_zero, List.getElem?_cons_succ] at z0 z1
  have hb5 := hb1.trans (hb4.mono hb1.size)
  have hfin := hents3.keep (keep_sets2 z4 (.slice (some ⟨g', 0, none⟩) C.length cap') (.bool true)) (by decide) (by decide)
  have HZ := Lib.hid (And.intro hb5 hfin)
  have HR := Lib.hid hrun2
  have HE := Lib.hid hE
  clear hfin hb5 z4 hents3 hb4 hents2 hfr2 hcell2 hrun2 hown2 hb2 hb1 z h hE
  go_enter Try.func10, Try.ntmps10
  go_wp2_with fail
  go_at_call 20
  refine (rfind_any HE.out (by omega) id).mono ?_
  rintro e w1 ⟨rfl, ⟨k, c', rfl, hc', hid'⟩ | ⟨rfl, hnone⟩⟩
  · have hik := hs.one hc' hc (hid'.trans hid.symm)
    subst hik
    rw [hc] at hc'
    cases hc'
    rcases HE.out.cells with ⟨_, rfl⟩ | ⟨g, cap', ev, hg, hcap, hfr, hcell⟩
    · simp at hc
    injection ev with ev1 ev2 ev3
    subst ev1; subst ev3
    obtain ⟨d0, d1, -, -, -⟩ := hcell _ _ hc
    rw [hto] at d1
    have hat' : ¬ at_ ≤ id := by omega
    clear hcell hfr ev2 hc hid hid' hs hto hat m0
    go_wp2_with (at_builtin; refine wpList_append_run rfl _ _ 25 rfl _ _ rfl rfl HR.out ?_)
    try simp only [Exit.inBlock, Exit.then]
    refine bodyPost_ret (v := .agg #[.slice (some ⟨g', 0, none⟩) C.length cap', .bool true]) ?_ rfl ⟨below_sets2 HZ.out.1 (Nat.le_refl _) _ _, _, rfl, HZ.out.2⟩
    rw [results_cell1 rfl]; go_simp
  · exact absurd hid (hnone c (List.mem_of_getElem? hc))

end Go.Proofs.Ytlndkeofhcneaaa
