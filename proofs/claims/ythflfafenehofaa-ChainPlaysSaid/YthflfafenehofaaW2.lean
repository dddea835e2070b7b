/-
  The walk of Push.
-/
import Derived.Test.YthflfafenehofaaW1
import Derived.Deep.RegionHeld3
import Derived.Lib.Hide
namespace Go.Proofs.Ythflfafenehofaa
open Go.RowKit

set_option maxHeartbeats 1000000 in
theorem push_nil (prev cell num slot gen : Int) (w : World) :
    Calls Try.prog 10 #[.pointer none, .int .i64 prev, .int .i64 cell, .int .i64 num, .agg #[.int .i64 slot, .int .i64 gen]] w fun e w' => e = .returned (.tuple #[.int .i64 (-1), .bool false]) ∧ Below w.heap.size w w' := by
  go_enter Try.func10, Try.ntmps10
  go_wp2_with (go_at_call 23; refine (at_nil _ _).mono ?_; rintro e w1 ⟨rfl, rfl⟩)
  go_ret2
  exact ⟨rfl, (Below.refl _ _).alloc (Nat.le_refl _) _⟩

theorem two_first {W : World} {b : Nat} (hb : W.heap.size = b) (C : Array Value) (t : TypeId) (o : Obj) (i : Nat) (v : Value) (hv : C[i]? = some v := by rfl) : ((W.alloc (.cells C t)).alloc o).drew.cell? ⟨b, i, none⟩ = some v := by
  subst hb
  rw [World.cell?_drew, World.cell?_alloc2_first]
  exact hv
theorem one_first {W : World} {b : Nat} (hb : W.heap.size = b) (C : Array Value) (t : TypeId) (i : Nat) (v : Value) (hv : C[i]? = some v := by rfl) : (W.alloc (.cells C t)).cell? ⟨b, i, none⟩ = some v := by
  subst hb
  rw [World.cell?_alloc_new]
  exact hv
theorem drew_blk {w : World} {b : Nat} {o : Obj} (h : w.heap[b]? = some o) : w.drew.heap[b]? = some o := h

set_option maxHeartbeats 1000000 in
theorem push_first {X : Nat → Prop} {w : World} {c mb : Nat} {M : CS} (h : IsChain X w c mb M) (hm : (M.length : Int) ≤ 4611686018427387904) (hk : cget M (-1) = none) (num slot gen : Int) :
    Calls Try.prog 10 #[.pointer (some ⟨c, 0, none⟩), .int .i64 (-1), .int .i64 0, .int .i64 num, .agg #[.int .i64 slot, .int .i64 gen]] w fun e w' => e = .returned (.tuple #[.int .i64 M.length, .bool true]) ∧ IsChain (fun k => X k ∨ k = w.heap.size + 1) w' c mb (M ++ [some ⟨w.heap.size + 1, -1, 0, num, slot, gen, 1⟩]) ∧ Keep X w w' := by
  have e1 : ptrOf (cget M (-1)) = .pointer none := by rw [hk]; rfl
  obtain ⟨h0, h1, h2, h3, _⟩ := run_look h
  have hA : IsChain X (w.alloc (.cells #[.int .i64 slot, .int .i64 gen] 31)) c mb M := h.alloc _
  have hB : IsChain X ((w.alloc (.cells #[.int .i64 slot, .int .i64 gen] 31)).alloc (.cells (cval ⟨w.heap.size + 1, -1, 0, num, slot, gen, 1⟩) 62)).drew c mb M := (hA.alloc _).drew
  have hC := blk_new (w.alloc (.cells #[.int .i64 slot, .int .i64 gen] 31)) (.cells (cval ⟨w.heap.size + 1, -1, 0, num, slot, gen, 1⟩) 62)
  rw [World.size_alloc] at hC
  obtain ⟨_, w2, hrun, p1, p2, p3, p4, p5, p6, p7⟩ := hB.put Try.underlying56 Try.underlying3 ⟨w.heap.size + 1, -1, 0, num, slot, gen, 1⟩ (fun hx => by have := h.lt _ hx; simp at this; omega) (drew_blk hC)
  have q0 : w2.cell? ⟨w.heap.size, 0, none⟩ = some (.int .i64 slot) := (p7 ⟨w.heap.size, 0, none⟩ (fun hx => by have := h.lt _ hx; simp at this)).trans (by simp)
  have q1 : w2.cell? ⟨w.heap.size, 1, none⟩ = some (.int .i64 gen) := (p7 ⟨w.heap.size, 1, none⟩ (fun hx => by have := h.lt _ hx; simp at this)).trans (by simp)
  simp only [cval] at hrun
  have hD := ((((Keep.refl X w).alloc (.cells #[.int .i64 slot, .int .i64 gen] 31)).alloc (.cells (cval ⟨w.heap.size + 1, -1, 0, num, slot, gen, 1⟩) 62)).drew).trans p5
  clear hk hB hC p5 p7
  go_enter Try.func10, Try.ntmps10
  go_wp2_with (go_at_call 23; refine (at_ok hA _).mono ?_; rintro e w1 ⟨rfl, rfl⟩)
  go_region_held3 (fun w' => w'.cell? ⟨c, 0, none⟩ = some (.map (some mb)) ∧ w'.cell? ⟨w.heap.size, 0, none⟩ = some (.int .i64 slot) ∧ w'.cell? ⟨w.heap.size, 1, none⟩ = some (.int .i64 gen)) (go_keep) (fail)
  go_wp2_with fail
  go_ret2
  exact ⟨rfl, p4, hD⟩

set_option maxHeartbeats 1000000 in
theorem push_no {X : Nat → Prop} {w : World} {c mb : Nat} {M : CS} (h : IsChain X w c mb M) (prev cell num slot gen : Int) (hk : cget M prev = none) (hp : ¬ (prev = -1 ∧ cell = 0)) :
    Calls Try.prog 10 #[.pointer (some ⟨c, 0, none⟩), .int .i64 prev, .int .i64 cell, .int .i64 num, .agg #[.int .i64 slot, .int .i64 gen]] w fun e w' => e = .returned (.tuple #[.int .i64 (-1), .bool false]) ∧ Below w.heap.size w w' := by
  have e1 : ptrOf (cget M prev) = .pointer none := by rw [hk]; rfl
  have hA : IsChain X (w.alloc (.cells #[.int .i64 slot, .int .i64 gen] 31)) c mb M := h.alloc _
  clear hk
  by_cases h1 : prev = -1
  · have h2 : (cell == 0) = false := by simpa [h1] using hp
    subst h1
    clear hp
    go_enter Try.func10, Try.ntmps10
    go_wp2_with (go_at_call 23; refine (at_ok hA _).mono ?_; rintro e w1 ⟨rfl, rfl⟩)
    go_ret2
    exact ⟨rfl, (Below.refl _ _).alloc (Nat.le_refl _) _⟩
  · have h2 : (prev == -1) = false := by simpa using h1
    clear hp h1
    go_enter Try.func10, Try.ntmps10
    go_wp2_with (go_at_call 23; refine (at_ok hA _).mono ?_; rintro e w1 ⟨rfl, rfl⟩)
    go_ret2
    exact ⟨rfl, (Below.refl _ _).alloc (Nat.le_refl _) _⟩

set_option maxHeartbeats 1000000 in
theorem push_bad {X : Nat → Prop} {w : World} {c mb : Nat} {M : CS} (h : IsChain X w c mb M) (prev cell num slot gen : Int) {p : CN} (hk : cget M prev = some p) (hb : 0 ≤ p.cell ∧ p.cell ≤ 5) (hp : cell < p.cell ∨ min (p.cell + 1) 5 < cell) :
    Calls Try.prog 10 #[.pointer (some ⟨c, 0, none⟩), .int .i64 prev, .int .i64 cell, .int .i64 num, .agg #[.int .i64 slot, .int .i64 gen]] w fun e w' => e = .returned (.tuple #[.int .i64 (-1), .bool false]) ∧ Below w.heap.size w w' := by
  have e1 : ptrOf (cget M prev) = .pointer (some ⟨p.blk, 0, none⟩) := by rw [hk]; rfl
  have hA : IsChain X (w.alloc (.cells #[.int .i64 slot, .int .i64 gen] 31)) c mb M := h.alloc _
  obtain ⟨c0, c1, c2, c3, c4, c5, c6, c7, c8⟩ := h.cells hk
  obtain ⟨hb1, hb2⟩ := hb
  clear hk
  by_cases h1 : cell < p.cell
  · clear hp
    go_enter Try.func10, Try.ntmps10
    go_wp2_with (go_at_call 23; refine (at_ok hA _).mono ?_; rintro e w1 ⟨rfl, rfl⟩)
    go_ret2
    exact ⟨rfl, (Below.refl _ _).alloc (Nat.le_refl _) _⟩
  · have h2 : min (p.cell + 1) 5 < cell := hp.resolve_left h1
    clear hp
    go_enter Try.func10, Try.ntmps10
    go_wp2_with (go_at_call 23; refine (at_ok hA _).mono ?_; rintro e w1 ⟨rfl, rfl⟩)
    all_goals
      go_ret2
      exact ⟨rfl, (Below.refl _ _).alloc (Nat.le_refl _) _⟩


set_option maxHeartbeats 2000000 in
theorem push_next {X : Nat → Prop} {w : World} {c mb : Nat} {M : CS} (h : IsChain X w c mb M) (hm : (M.length : Int) ≤ 4611686018427387904) (prev cell num slot gen : Int) {p : CN} (hk : cget M prev = some p) (hb : 0 ≤ p.cell ∧ p.cell ≤ 5) (hp : p.cell ≤ cell ∧ cell ≤ p.cell + 1 ∧ cell ≤ 5)
    (hcn : 0 ≤ p.count ∧ p.count ≤ 4611686018427387904) :
    Calls Try.prog 10 #[.pointer (some ⟨c, 0, none⟩), .int .i64 prev, .int .i64 cell, .int .i64 num, .agg #[.int .i64 slot, .int .i64 gen]] w fun e w' => e = .returned (.tuple #[.int .i64 M.length, .bool true]) ∧
      IsChain (fun k => X k ∨ k = w.heap.size + 1) w' c mb (M.set prev.toNat (some { p with count := p.count + 1 }) ++ [some ⟨w.heap.size + 1, prev, cell, num, slot, gen, 1⟩]) ∧ Keep X w w' := by
  have e1 : ptrOf (cget M prev) = .pointer (some ⟨p.blk, 0, none⟩) := by rw [hk]; rfl
  obtain ⟨h0, h1, h2, h3, _⟩ := run_look h
  obtain ⟨c0, c1, c2, c3, c4, c5, c6, c7, c8⟩ := h.cells hk
  have hA : IsChain X (w.alloc (.cells #[.int .i64 slot, .int .i64 gen] 31)) c mb M := h.alloc _
  have hR := h.recount hk (p.count + 1)
  have hA2 := hR.alloc (.cells #[.int .i64 slot, .int .i64 gen] 31)
  obtain ⟨r0, r1, r2, r3, _⟩ := run_look hR
  rw [List.length_set] at r1
  have hsz : (w.setCell ⟨p.blk, 5, none⟩ (.int .i64 (p.count + 1))).heap.size = w.heap.size := by simp [World.setCell]
  have hB := (hA2.alloc (.cells (cval ⟨w.heap.size + 1, prev, cell, num, slot, gen, 1⟩) 62)).drew
  have hC := blk_new ((w.setCell ⟨p.blk, 5, none⟩ (.int .i64 (p.count + 1))).alloc (.cells #[.int .i64 slot, .int .i64 gen] 31)) (.cells (cval ⟨w.heap.size + 1, prev, cell, num, slot, gen, 1⟩) 62)
  rw [World.size_alloc, hsz] at hC
  obtain ⟨_, w2, hrun, p1, p2, p3, p4, p5, p6, p7⟩ := hB.put Try.underlying56 Try.underlying3 ⟨w.heap.size + 1, prev, cell, num, slot, gen, 1⟩ (fun hx => by have := h.lt _ hx; simp at this; omega) (drew_blk hC)
  have q0 : w2.cell? ⟨w.heap.size, 0, none⟩ = some (.int .i64 slot) := (p7 ⟨w.heap.size, 0, none⟩ (fun hx => by have := h.lt _ hx; simp at this)).trans (two_first hsz _ _ _ _ _)
  have q1 : w2.cell? ⟨w.heap.size, 1, none⟩ = some (.int .i64 gen) := (p7 ⟨w.heap.size, 1, none⟩ (fun hx => by have := h.lt _ hx; simp at this)).trans (two_first hsz _ _ _ _ _)
  simp only [cval] at hrun
  rw [List.length_set] at hrun p1 p4 p5
  have hD := (((((Keep.refl X w).setCell (p := ⟨p.blk, 5, none⟩) (.inl c8) (.int .i64 (p.count + 1))).alloc (.cells #[.int .i64 slot, .int .i64 gen] 31)).alloc (.cells (cval ⟨w.heap.size + 1, prev, cell, num, slot, gen, 1⟩) 62)).drew).trans p5
  obtain ⟨hb1, hb2⟩ := hb
  obtain ⟨hp1, hp2, hp3⟩ := hp
  obtain ⟨hn1, hn2⟩ := hcn
  have z0 := one_first hsz #[.int .i64 slot, .int .i64 gen] 31 0 (.int .i64 slot)
  have z1 := one_first hsz #[.int .i64 slot, .int .i64 gen] 31 1 (.int .i64 gen)
  have y0 := two_first hsz #[.int .i64 slot, .int .i64 gen] 31 (.cells (cval ⟨w.heap.size + 1, prev, cell, num, slot, gen, 1⟩) 62) 0 (.int .i64 slot)
  have y1 := two_first hsz #[.int .i64 slot, .int .i64 gen] 31 (.cells (cval ⟨w.heap.size + 1, prev, cell, num, slot, gen, 1⟩) 62) 1 (.int .i64 gen)
  simp only [cval, World.cell?_drew] at y0 y1
  have HS := Lib.hid hsz
  clear hk hB hC p5 p7 hR hA2 hsz
  go_enter Try.func10, Try.ntmps10
  go_wp2_with (go_at_call 23; refine (at_ok hA _).mono ?_; rintro e w1 ⟨rfl, rfl⟩)
  all_goals
    go_region_held3 (fun w' => w'.cell? ⟨c, 0, none⟩ = some (.map (some mb)) ∧ w'.cell? ⟨w.heap.size, 0, none⟩ = some (.int .i64 slot) ∧ w'.cell? ⟨w.heap.size, 1, none⟩ = some (.int .i64 gen)) (go_keep) (fail)
    go_wp2_with fail
    go_ret2
    exact ⟨rfl, p4, hD⟩

end Go.Proofs.Ythflfafenehofaa
