/-
  The walks of the document's Add and End.
-/
import Derived.Test.YtlndkeofhcneaaaW14
namespace Go.Proofs.Ytlndkeofhcneaaa
open Go.RowKit Go.Shelf

attribute [local go_sem] Oper.semAt_some

/-- All entries of a row, behind nothing: a row of one's own. -/
theorem app_copy {W : World} {v : Value} {C : List EN} (h : IsEnts W v C) (hl : C.length ≤ 1000) (ty : TypeId) :
    ∃ v' W3, (Builtin.append_ #[25, 25] ty #[.slice (some ⟨W.heap.size, 0, none⟩) 0 0, v]).run Try.prog (W.alloc (.cells #[] 48)) = .ok v' W3 ∧
      W3.ownsRow W.heap.size 48 5 v' C.length (env C) ∧ Below W.heap.size W W3 := by
  obtain ⟨i0, hi, hz0, hz1, hz2⟩ := info_parts info48
  have hbA := below_alloc W (.cells #[] 48)
  have hA := h.below hbA
  have hsA : (W.alloc (.cells #[] 48)).heap.size = W.heap.size + 1 := World.size_alloc _ _
  have hown : (W.alloc (.cells #[] 48)).ownsRow W.heap.size 48 5 (.slice (some ⟨W.heap.size, 0, none⟩) 0 0) 0 [] :=
    ⟨rfl, .inr ⟨W.heap.size, 0, #[], rfl, Nat.le_refl _, blk_new W _, Nat.le_refl _, by unfold maxLen; omega, rfl, rfl⟩⟩
  rcases hA.cells with ⟨rfl, rfl⟩ | ⟨g, cap, rfl, _⟩
  · exact ⟨_, _, run_append_owned_none (P := Try.prog) _ W.heap.size 25 ty 48 i0 5 Try.underlying25 hi _ 0 [] hown, hown, hbA⟩
  · obtain ⟨v', W3, hrun, hown', hgr, hnil, hat⟩ := run_append_own_at (P := Try.prog) (W.alloc (.cells #[] 48)) W.heap.size 25 ty 48 i0 _ 5 56 Try.underlying25 hi hz0 hz1 hz2 rfl (by decide) _ 0 [] hown ⟨g, 0, none⟩ C.length cap (env C) (env_length C)
      (fun j u hu => by rw [addr_add]; exact env_at hA.own j u hu) (env_one C) (by unfold maxLen; omega) (by omega) (by omega)
    rw [Nat.zero_add, List.nil_append] at hown'
    exact ⟨v', W3, hrun, hown', hbA.trans (below_grown hgr (by omega) fun k hk => by simp [Value.ownBlock] at hk; omega)⟩

theorem own_slice5 {w : World} {b : Nat} {e : TypeId} {size : Nat} {v : Value} {n : Nat} {xs : List Value} (h : w.ownsRow b e size v n xs) : ∃ p cap, v = .slice p n cap := by
  rcases h.2 with ⟨rfl, rfl⟩ | ⟨g, cap, cur, rfl, _⟩
  · exact ⟨none, 0, rfl⟩
  · exact ⟨_, _, rfl⟩

theorem below_sets2 {n b : Nat} {w w' : World} (h : Below n w w') (hb : n ≤ b) (u0 u1 : Value) : Below n w ((w'.setCell ⟨b, 0, none⟩ u0).setCell ⟨b, 1, none⟩ u1) := below_set (below_set h hb u0) hb u1

set_option maxHeartbeats 2000000 in
theorem rAdd_no {W : World} {v : Value} {C : List EN} (h : IsEnts W v C) (id : Int) (sp : Option Addr) (sn sc : Nat) (win : Int) (hl : C.length ≤ 900)
    (hno : id < 0 ∨ ∃ e, C[C.length - 1]? = some e ∧ id ≤ e.id) :
    Calls Try.prog 13 #[v, .int .i64 id, tabV sp sn sc win] W fun e w' => e = .returned (.agg #[v, .bool false]) ∧ Below W.heap.size W w' := by
  obtain ⟨p, cap, rfl⟩ := h.slice
  obtain ⟨W1, e1⟩ : ∃ W1, (W.alloc (.cells #[.slice sp sn sc, .int .i64 win, .bool false] 38)).alloc (.cells #[.slice none 0 0, .bool false] 33) = W1 := ⟨_, rfl⟩
  have hb1 : Below W.heap.size W W1 := by rw [← e1]; exact (below_alloc _ _).alloc (by simp) _
  have z : W1.heap[W.heap.size + 1]? = some (.cells #[.slice none 0 0, .bool false] 33) := by
    rw [← e1]
    have := blk_new (W.alloc (.cells #[.slice sp sn sc, .int .i64 win, .bool false] 38)) (.cells #[.slice none 0 0, .bool false] 33)
    rwa [World.size_alloc] at this
  have zf := blk_free z
  have zl := blk_lt z
  have z0 := blk_cell z 0
  have z1 := blk_cell z 1
  simp only [List.getElem?_toArray, List.getElem?_cons_zero, List.getElem?_cons_succ] at z0 z1
  have hE := h.below hb1
  have HB := Lib.hid hb1
  clear hb1 z h
  unfold tabV
  by_cases h0 : id < 0
  · clear hno hE
    go_enter Try.func13, Try.ntmps13
    go_wp2_with fail
    try simp only [Exit.inBlock, Exit.then]
    refine bodyPost_ret (v := .agg #[.slice p C.length cap, .bool false]) ?_ rfl ⟨rfl, below_sets2 HB.out (by omega) _ _⟩
    rw [results_cell1 rfl]; go_simp
  · obtain ⟨e, he, hle⟩ := hno.resolve_left h0
    have hpos := (List.getElem?_eq_some_iff.1 he).1
    rcases hE.cells with ⟨_, rfl⟩ | ⟨g, cap', ev, hg, hcap, hfr, hcell⟩
    · simp at he
    injection ev with ev1 ev2 ev3
    subst ev1; subst ev3
    obtain ⟨d0, _⟩ := hcell _ _ he
    clear hno hcell he hfr hE ev2
    go_enter Try.func13, Try.ntmps13
    go_wp2_with fail
    try simp only [Exit.inBlock, Exit.then]
    refine bodyPost_ret (v := .agg #[.slice (some ⟨g, 0, none⟩) C.length cap, .bool false]) ?_ rfl ⟨rfl, below_sets2 HB.out (by omega) _ _⟩
    rw [results_cell1 rfl]; go_simp

set_option maxHeartbeats 2000000 in
theorem rAdd_yes {W : World} {v : Value} {C : List EN} (h : IsEnts W v C) (id : Int) (sp : Option Addr) (sn sc : Nat) (win : Int) (hl : C.length ≤ 900) (htab : TabOK W (.slice sp sn sc) win)
    (hyes : 0 ≤ id ∧ ∀ e, C[C.length - 1]? = some e → e.id < id) :
    Calls Try.prog 13 #[v, .int .i64 id, tabV sp sn sc win] W fun e w' => Below W.heap.size W w' ∧ ∃ v', e = .returned (.agg #[v', .bool true]) ∧ IsEnts w' v' (C ++ [⟨id, -1, win, sp, sn, sc⟩]) := by
  obtain ⟨p, cap, rfl⟩ := h.slice
  obtain ⟨W1, e1⟩ : ∃ W1, (W.alloc (.cells #[.slice sp sn sc, .int .i64 win, .bool false] 38)).alloc (.cells #[.slice none 0 0, .bool false] 33) = W1 := ⟨_, rfl⟩
  have hb1 : Below W.heap.size W W1 := by rw [← e1]; exact (below_alloc _ _).alloc (by simp) _
  have hs1 : W1.heap.size = W.heap.size + 2 := by rw [← e1]; simp
  have z : W1.heap[W.heap.size + 1]? = some (.cells #[.slice none 0 0, .bool false] 33) := by
    rw [← e1]
    have := blk_new (W.alloc (.cells #[.slice sp sn sc, .int .i64 win, .bool false] 38)) (.cells #[.slice none 0 0, .bool false] 33)
    rwa [World.size_alloc] at this
  have x : W1.heap[W.heap.size]? = some (.cells #[.slice sp sn sc, .int .i64 win, .bool false] 38) := by
    rw [← e1]
    exact blk_alloc (blk_new _ _) _
  have hE := h.below hb1
  obtain ⟨v2, W2, hrun2, hown2, hb2⟩ := app_copy hE (by omega) 25
  obtain ⟨p2, cap2, rfl⟩ := own_slice5 hown2
  obtain ⟨v3, W3, hrun3, hown3, hk3, hb3⟩ := app_ents hown2 ⟨id, -1, win, sp, sn, sc⟩ (by omega) hb2.size 25
  obtain ⟨p3, cap3, rfl⟩ := own_slice5 hown3
  have hb23 := hb2.trans hb3
  have hs2 := hb2.size
  have hs3 := hb23.size
  have hb : Below W.heap.size W W3 := hb1.trans (hb23.mono hb1.size)
  have x2 := (hb2.block _ (by omega)).trans x
  have z3 := (hb23.block _ (by omega)).trans z
  have y0 := blk_cell x2 0
  have y1 := blk_cell x2 1
  have y2 := blk_cell x2 2
  have yl := blk_lt x2
  have zf := blk_free z3
  have zl := blk_lt z3
  have z0 := blk_cell z3 0
  have z1 := blk_cell z3 1
  simp only [List.getElem?_toArray, List.getElem?_cons_zero, List.getElem?_cons_succ] at y0 y1 y2 z0 z1
  have hfin : IsEnts ((W3.setCell ⟨W.heap.size + 1, 0, none⟩ (.slice p3 (C.length + 1) cap3)).setCell ⟨W.heap.size + 1, 1, none⟩ (.bool true)) (.slice p3 (C.length + 1) cap3) (C ++ [⟨id, -1, win, sp, sn, sc⟩]) := by
    have hk : KeepT (· = 33) W3 ((W3.setCell ⟨W.heap.size + 1, 0, none⟩ (.slice p3 (C.length + 1) cap3)).setCell ⟨W.heap.size + 1, 1, none⟩ (.bool true)) := by
      refine ⟨by simp [World.setCell], fun b C' t hbb ht => ?_⟩
      have hne : b ≠ W.heap.size + 1 := fun e => by subst e; rw [hbb] at z3; injection z3 with z3; injection z3 with _ z3; exact ht z3
      rw [Below.heap_setCell _ _ _ _ hne, Below.heap_setCell _ _ _ _ hne]
      exact hbb
    refine IsEnts.keep ⟨by rw [List.length_append]; exact ownsRow_zero hown3, fun e he => ?_⟩ hk (by decide) (by decide)
    rcases List.mem_append.1 he with he | he
    · exact (h.tab e he).below hb
    · obtain rfl := List.mem_singleton.1 he
      exact htab.below hb
  have HZ := Lib.hid (And.intro hb hfin)
  have HR2 := Lib.hid hrun2
  have HR3 := Lib.hid hrun3
  obtain ⟨h0, hlast⟩ := hyes
  have q0 : ¬ id < 0 := by omega
  have hcs := hE.cells
  clear hfin hb hrun2 hrun3 hown2 hown3 hk3 hb3 hb2 hb23 hs1 hs2 hs3 z x x2 z3 hb1 htab h hE
  unfold tabV
  rcases hcs with ⟨ev, rfl⟩ | ⟨g, cap', ev, hg, hcap, hfr, hcell⟩
  · injection ev with ev1 ev2 ev3
    subst ev1; subst ev3
    clear hlast
    dsimp only [List.length_nil] at HR2 HR3 HZ ⊢
    go_enter Try.func13, Try.ntmps13
    go_wp2_with (at_builtin; first | refine wpList_append_run rfl _ _ 25 rfl _ _ rfl rfl HR2.out ?_ | refine wpList_append_run rfl _ _ 25 rfl _ _ rfl rfl HR3.out ?_)
    try simp only [Exit.inBlock, Exit.then]
    refine bodyPost_ret (v := .agg #[.slice p3 1 cap3, .bool true]) ?_ rfl ⟨below_sets2 HZ.out.1 (by omega) _ _, _, rfl, HZ.out.2⟩
    rw [results_cell1 rfl]; go_simp
  · injection ev with ev1 ev2 ev3
    subst ev1; subst ev3
    by_cases hpos : 0 < C.length
    · obtain ⟨e, he⟩ : ∃ e, C[C.length - 1]? = some e := ⟨_, List.getElem?_eq_getElem (by omega)⟩
      obtain ⟨d0, _⟩ := hcell _ _ he
      have hlt := hlast e he
      have q1 : ¬ id ≤ e.id := by omega
      clear hlast hcell hfr ev2 he
      go_enter Try.func13, Try.ntmps13
      go_wp2_with (at_builtin; first | refine wpList_append_run rfl _ _ 25 rfl _ _ rfl rfl HR2.out ?_ | refine wpList_append_run rfl _ _ 25 rfl _ _ rfl rfl HR3.out ?_)
      try simp only [Exit.inBlock, Exit.then]
      refine bodyPost_ret (v := .agg #[.slice p3 (C.length + 1) cap3, .bool true]) ?_ rfl ⟨below_sets2 HZ.out.1 (by omega) _ _, _, rfl, HZ.out.2⟩
      rw [results_cell1 rfl]; go_simp
    · obtain rfl : C = [] := List.eq_nil_of_length_eq_zero (by omega)
      clear hlast hcell hfr ev2 hpos
      dsimp only [List.length_nil] at HR2 HR3 HZ ⊢
      go_enter Try.func13, Try.ntmps13
      go_wp2_with (at_builtin; first | refine wpList_append_run rfl _ _ 25 rfl _ _ rfl rfl HR2.out ?_ | refine wpList_append_run rfl _ _ 25 rfl _ _ rfl rfl HR3.out ?_)
      try simp only [Exit.inBlock, Exit.then]
      refine bodyPost_ret (v := .agg #[.slice p3 1 cap3, .bool true]) ?_ rfl ⟨below_sets2 HZ.out.1 (by omega) _ _, _, rfl, HZ.out.2⟩
      rw [results_cell1 rfl]; go_simp

end Go.Proofs.Ytlndkeofhcneaaa
