/-
  The walks of at, kind, Find.
-/
import Derived.Test.YtlndkeofhcneaaaW2
namespace Go.Proofs.Ytlndkeofhcneaaa
open Go.RowKit Go.Shelf

attribute [local go_sem] Oper.semAt_some

set_option maxHeartbeats 1000000 in
theorem at_any {W : World} {r v : Value} {C : List EN} (h : IsRoll W r v C) (hs : Asc C) (hl : C.length ≤ 1000) (id : Int) :
    Calls Try.prog 18 #[r, .int .i64 id] W fun e w' => ∃ i b, e = .returned (.tuple #[.int .i64 (i : Nat), .bool b]) ∧ Told C id i b ∧ Below W.heap.size W w' := by
  have HR := Lib.hid h
  clear h
  go_enter Try.func18, Try.ntmps18
  go_wp2_with fail
  go_at_call 21
  refine (all_any HR.out).mono ?_
  rintro e w1 ⟨rfl, rfl⟩
  go_wp2_with fail
  go_at_call 27
  refine (search_any HR.out.ents hs hl id).mono ?_
  rintro e w2 ⟨i, b, rfl, ht, hb⟩
  go_wp2_with fail
  go_ret2
  exact ⟨i, b, rfl, ht, hb⟩

/-- A kind's table. -/
def tabV (sp : Option Addr) (sn sc : Nat) (win : Int) : Value := .agg #[.slice sp sn sc, .int .i64 win, .bool false]

set_option maxHeartbeats 1000000 in
theorem kind_any (n : Int) (W : World) :
    Calls Try.prog 12 #[.int .i64 n] W fun e w' => ∃ b c, e = .returned (tabV (some ⟨b, 0, none⟩) 1 c n) ∧ TabOK w' (.slice (some ⟨b, 0, none⟩) 1 c) n ∧ Below W.heap.size W w' := by
  go_enter Try.func12, Try.ntmps12
  go_wp2_with fail
  try simp only [Exit.inBlock, Exit.then]
  refine bodyPost_ret (v := tabV (some ⟨W.heap.size + 1, 0, none⟩) 1 1 n) ?_ rfl ⟨W.heap.size + 1, 1, rfl, ?_, ?_⟩
  · unfold tabV
    rw [results_cell1 rfl]; go_simp
  · have h := blk_new (W.alloc (.cells #[.slice (some ⟨W.heap.size + 1, 0, none⟩) 1 1, .int .i64 n, .bool false] 38)) (.cells #[.int .i64 n, .bool false, .slice none 0 0, .slice none 0 0] 65)
    rw [World.size_alloc] at h
    exact .inr ⟨W.heap.size + 1, 1, rfl, h⟩
  · exact (below_alloc _ _).alloc (by simp) _

theorem below_sets5 {n b : Nat} {w w' : World} (h : Below n w w') (hb : n ≤ b) (u0 u1 u2 u3 u4 : Value) :
    Below n w (((((w'.setCell ⟨b, 0, none⟩ u0).setCell ⟨b, 1, none⟩ u1).setCell ⟨b, 2, none⟩ u2).setCell ⟨b, 3, none⟩ u3).setCell ⟨b, 4, none⟩ u4) := by
  have one : ∀ (x : World) (p : Addr) (u : Value), Below n w x → p.block = b → Below n w (x.setCell p u) := fun x p u hx hp =>
    ⟨hx.os, hx.tape, hx.output, by have := hx.size; simpa [World.setCell] using this, fun k hk => (Below.heap_setCell x p u k (by rw [hp]; omega)).trans (hx.block k hk)⟩
  exact one _ _ _ (one _ _ _ (one _ _ _ (one _ _ _ (one _ _ _ h rfl) rfl) rfl) rfl) rfl

set_option maxHeartbeats 1000000 in
theorem find_any {W : World} {r v : Value} {C : List EN} (h : IsRoll W r v C) (hs : Asc C) (hl : C.length ≤ 1000) (id : Int) :
    Calls Try.prog 15 #[r, .int .i64 id] W fun e w' => Below W.heap.size W w' ∧
      ((∃ c, e = .returned (.tuple #[entV c, .bool true]) ∧ c ∈ C ∧ c.id = id) ∨ (e = .returned (.tuple #[entV ⟨0, 0, 0, none, 0, 0⟩, .bool false]) ∧ ∀ c ∈ C, c.id ≠ id)) := by
  have HR := Lib.hid h
  clear h
  go_enter Try.func15, Try.ntmps15
  go_wp2_with fail
  go_at_call 18
  refine (at_any (HR.out.below (below_alloc _ _)) hs hl id).mono ?_
  rintro e w1 ⟨i, b, rfl, ⟨hi, ht⟩, hb⟩
  have hbb := (below_then (below_alloc W (.cells #[.int .i64 0, .int .i64 0, .slice none 0 0, .int .i64 0, .bool false] 48)) hb)
  have hs0 := hb.size
  simp only [World.size_alloc] at hs0
  have z : w1.heap[W.heap.size]? = some (.cells #[.int .i64 0, .int .i64 0, .slice none 0 0, .int .i64 0, .bool false] 48) := (hb.block _ (by simp)).trans (blk_new _ _)
  have zf := blk_free z
  have zl := blk_lt z
  have z0 := blk_cell z 0
  have z1 := blk_cell z 1
  have z2 := blk_cell z 2
  have z3 := blk_cell z 3
  have z4 := blk_cell z 4
  simp only [List.getElem?_toArray, List.getElem?_cons_zero, List.getElem?_cons_succ] at z0 z1 z2 z3 z4
  rcases ht with ⟨rfl, c, hc, hid⟩ | ⟨rfl, hno⟩
  · rcases (HR.out.below hbb).ptr with ⟨rfl, rfl, rfl⟩ | ⟨b, rfl, hb2⟩
    · simp at hc
    · rcases (HR.out.below hbb).ents.cells with ⟨_, rfl⟩ | ⟨g, cap, rfl, hg, hcap, hfr, hcell⟩
      · simp at hc
      · obtain ⟨d0, d1, d2, d3, d4⟩ := hcell _ _ hc
        have e0 := blk_cell hb2 0
        have el := blk_lt hb2
        simp only [List.getElem?_toArray, List.getElem?_cons_zero] at e0
        have hil := (List.getElem?_eq_some_iff.1 hc).1
        have HB := Lib.hid (And.intro hbb (And.intro hc hid))
        clear hb hbb z hb2 hcell hc hfr hid
        go_wp2_with fail
        try simp only [Exit.inBlock, Exit.then]
        refine bodyPost_ret (v := .tuple #[entV c, .bool true]) ?_ rfl ⟨below_sets5 HB.out.1 (Nat.le_refl _) _ _ _ _ _, .inl ⟨c, rfl, List.mem_of_getElem? HB.out.2.1, HB.out.2.2⟩⟩
        unfold entV
        rw [results_cell_tmp rfl]; go_simp
  · have HB := Lib.hid (And.intro hbb hno)
    clear z hb hbb hno
    go_wp2_with fail
    try simp only [Exit.inBlock, Exit.then]
    refine bodyPost_ret (v := .tuple #[entV ⟨0, 0, 0, none, 0, 0⟩, .bool false]) ?_ rfl ⟨below_sets5 HB.out.1 (Nat.le_refl _) _ _ _ _ _, .inr ⟨rfl, HB.out.2⟩⟩
    unfold entV
    rw [results_cell_tmp rfl]; go_simp

end Go.Proofs.Ytlndkeofhcneaaa
