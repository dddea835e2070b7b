/-
  'append' to a row of entries whose room is what it holds.
-/
import Derived.Test.YtlndkeofhcneaaaMem
namespace Go.Proofs.Ytlndkeofhcneaaa
open Go.RowKit Go.Shelf

theorem info48 : (Try.prog.info? 48).map (fun i => (i.zero, i.size, i.bytes)) = some (some (.agg #[.int .i64 0, .int .i64 0, .slice none 0 0, .int .i64 0, .bool false]), 5, 56) := by kernel_rfl

theorem addr_add (b j : Nat) : (⟨b, 0, none⟩ : Addr).add j = ⟨b, j, none⟩ := by cases j <;> simp [Addr.add]
theorem ev_one (e : EN) : ∀ u ∈ ev e, u.oneCell' = true := fun u hu => by
  simp [ev] at hu
  rcases hu with rfl | rfl | rfl | rfl | rfl <;> rfl
theorem env_one (C : List EN) : ∀ u ∈ env C, u.oneCell' = true := fun u hu => by
  obtain ⟨e, _, h⟩ := List.mem_flatMap.1 hu
  exact ev_one e u h
theorem env_at {W : World} {g cap : Nat} {C : List EN} (h : W.ownsRow 0 48 5 (.slice (some ⟨g, 0, none⟩) C.length cap) C.length (env C)) (j : Nat) (u : Value) (hu : (env C)[j]? = some u) : W.cell? ⟨g, j, none⟩ = some u := by
  have hj : j < C.length * 5 := by have := (List.getElem?_eq_some_iff.1 hu).1; rwa [env_length] at this
  rw [h.cellAt j (by omega)]; exact hu

theorem lit_src (W : World) (e : EN) : Src Try.prog 5 25 (.slice (some ⟨W.heap.size, 0, none⟩) 1 1) 1 (ev e) (W.alloc (.cells #[.int .i64 e.id, .int .i64 e.to, .slice e.sp e.sn e.sc, .int .i64 e.win, .bool false] 48)) := by
  refine Src.ofSlice _ Try.underlying25 _ _ _ _ rfl (fun j u hu => ?_) (ev_one e)
  rw [addr_add, blk_cell (blk_new W _) j]
  simpa [ev] using hu

theorem app_grow {W : World} {p : Option Addr} {cap : Nat} {C : List EN} (h : IsEnts W (.slice p C.length cap) C) (hl : C.length ≤ 1000) (e : EN) (he : TabOK W (.slice e.sp e.sn e.sc) e.win) (ty : TypeId) :
    ∃ cap' W3, (Builtin.append_ #[25, 25] ty #[.slice p C.length C.length, .slice (some ⟨W.heap.size, 0, none⟩) 1 1]).run Try.prog (W.alloc (.cells #[.int .i64 e.id, .int .i64 e.to, .slice e.sp e.sn e.sc, .int .i64 e.win, .bool false] 48)) =
        .ok (.slice (some ⟨W.heap.size + 1, 0, none⟩) (C.length + 1) cap') W3 ∧ IsEnts W3 (.slice (some ⟨W.heap.size + 1, 0, none⟩) (C.length + 1) cap') (C ++ [e]) ∧ W3.heap.size = W.heap.size + 2 ∧ Below W.heap.size W W3 := by
  obtain ⟨i0, hi, hz0, hz1, hz2⟩ := info_parts info48
  have hbA := below_alloc W (.cells #[.int .i64 e.id, .int .i64 e.to, .slice e.sp e.sn e.sc, .int .i64 e.win, .bool false] 48)
  have hA := h.below hbA
  have heA := he.below hbA
  have hsA : (W.alloc (.cells #[.int .i64 e.id, .int .i64 e.to, .slice e.sp e.sn e.sc, .int .i64 e.win, .bool false] 48)).heap.size = W.heap.size + 1 := World.size_alloc _ _
  have hsrc := lit_src W e
  generalize W.alloc (.cells #[.int .i64 e.id, .int .i64 e.to, .slice e.sp e.sn e.sc, .int .i64 e.win, .bool false] 48) = V at hbA hA heA hsA hsrc ⊢
  have hold : (Builtin.firstCells i0.size C.length (.slice p C.length C.length)).run Try.prog V.drew = .ok (env C).toArray V.drew := by
    rcases hA.own.2 with ⟨h1, h2⟩ | ⟨g, cap2, cur, h1, _⟩
    · injection h1 with h1 h2 h3
      subst h1
      rw [run_firstCells_none, List.eq_nil_of_length_eq_zero h2]; rfl
    · injection h1 with h1 h2 h3
      subst h1; subst h3
      rw [hz1]
      refine run_firstCells_some V.drew 5 C.length _ _ _ (env C) (env_length C) fun j u hu => ?_
      rw [addr_add]
      exact env_at (show V.drew.ownsRow 0 48 5 _ _ _ from hA.own) j u hu
  have hfit := growslice_fits (need := C.length + 1) (old := C.length) (bytes := i0.bytes) (by omega) (by rw [hz2]; omega)
  have hrun := run_append_grow_src (P := Try.prog) V 25 25 ty 48 i0 _ Try.underlying25 hi hz0 p C.length C.length (env C) hold (.slice (some ⟨W.heap.size, 0, none⟩) 1 1) 1 (ev e) (by rw [hz1]; exact hsrc) (by omega) (by omega) hfit
  rw [hsA] at hrun
  have hlen : (env C ++ ev e).length = (C.length + 1) * 5 := by rw [List.length_append, env_length, show (ev e).length = 5 from rfl]; omega
  refine ⟨_, _, hrun, ⟨⟨?_, .inr ⟨W.heap.size + 1, _, _, by rw [List.length_append]; rfl, Nat.zero_le _, by rw [← hsA]; exact heap_alloc_new V.drew _, by rw [List.length_append]; exact grownCap_ge V (C.length + 1) C.length 48, grownCap_le_maxLen V (C.length + 1) C.length 48 (by unfold maxLen; omega), ?_, ?_⟩⟩, fun x hx => ?_⟩, ?_, ?_⟩
  · rw [env_snoc, hlen, List.length_append]; rfl
  · have hge := grownCap_ge V (C.length + 1) C.length 48
    simp only [Array.size_append, List.size_toArray, size_zeroCells, hlen, Value.cells, List.length_cons, List.length_nil]
    simp
    omega
  · rw [env_snoc, List.length_append]
    simp only [Array.toList_append]
    rw [show (C.length + [e].length) * 5 = (env C ++ ev e).length from by rw [hlen]; rfl]
    exact List.take_left
  · refine TabOK.below (W := V) ?_ ((Below.refl _ _).drew.alloc (Nat.le_refl _) _)
    rcases List.mem_append.1 hx with hx | hx
    · exact hA.tab x hx
    · obtain rfl : x = e := by simpa using hx
      exact heA
  · rw [World.size_alloc]
    show V.heap.size + 1 = _
    omega
  · exact below_then hbA ((Below.refl _ V).drew.alloc (Nat.le_refl _) _)

end Go.Proofs.Ytlndkeofhcneaaa
