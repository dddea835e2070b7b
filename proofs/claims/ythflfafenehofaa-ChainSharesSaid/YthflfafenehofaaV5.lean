/-
  The contracts of ChainShares, in its own numbers.
-/
import Derived.Test.YthflfafenehofaaV4
namespace Go.Proofs.Ythflfafenehofaa
open Go.RowKit Go.Shelf

def nodeA (b N : Nat) (x : Int) : CN := ⟨b, (N : Int) - 1, 1, x, 100, 0, 1⟩
def nodeB (b N : Nat) (y : Int) : CN := ⟨b, (N : Int) - 1, 0, y, 200, 0, 1⟩

section
variable {X : Nat → Prop} {W : World} {cb mb : Nat} {nums : List Int} {L : List CN} {N : Nat}

theorem push_a (hN : L.length = N) (h : IsChain X W cb mb (L.map some ++ [])) (hr : RowC nums L (lastc N 1)) (hpos : 0 < N) (hl : N ≤ 100) (x : Int) :
    Calls Try.prog 10 #[.pointer (some ⟨cb, 0, none⟩), .int .i64 ((N : Int) - 1), .int .i64 1, .int .i64 x, .agg #[.int .i64 100, .int .i64 0]] W fun e w' => e = .returned (.tuple #[.int .i64 (N : Int), .bool true]) ∧
      ∃ (L' : List CN) (X' : Nat → Prop) (b : Nat), L'.length = N ∧ IsChain X' w' cb mb (L'.map some ++ [some (nodeA b N x)]) ∧ RowC nums L' (lastc N 2) ∧ Keep X W w' ∧ (∀ b, X' b → X b ∨ W.heap.size ≤ b) :=
  push_on hN h hr (by omega) hpos (by simp; omega) 1 x 100 (by omega)
theorem push_b {bA : Nat} {x : Int} (hN : L.length = N) (h : IsChain X W cb mb (L.map some ++ [some (nodeA bA N x)])) (hr : RowC nums L (lastc N 2)) (hpos : 0 < N) (hl : N ≤ 100) (y : Int) :
    Calls Try.prog 10 #[.pointer (some ⟨cb, 0, none⟩), .int .i64 ((N : Int) - 1), .int .i64 0, .int .i64 y, .agg #[.int .i64 200, .int .i64 0]] W fun e w' => e = .returned (.tuple #[.int .i64 ((N : Int) + 1), .bool true]) ∧
      ∃ (L' : List CN) (X' : Nat → Prop) (b : Nat), L'.length = N ∧ IsChain X' w' cb mb (L'.map some ++ [some (nodeA bA N x), some (nodeB b N y)]) ∧ RowC nums L' (lastc N 3) ∧ Keep X W w' ∧ (∀ b, X' b → X b ∨ W.heap.size ≤ b) :=
  push_on hN h hr (by omega) hpos (by simp; omega) 0 y 200 (by omega)
theorem drop_at {bA bB : Nat} {x y : Int} (hN : L.length = N) (h : IsChain X W cb mb (L.map some ++ [some (nodeA bA N x), some (nodeB bB N y)])) (hr : RowC nums L (lastc N 3)) (hpos : 0 < N) (hl : N ≤ 100) :
    Calls Try.prog 11 #[.pointer (some ⟨cb, 0, none⟩), .int .i64 ((N : Int) - 1)] W fun e w' => ∃ p cap, e = .returned (.tuple #[.slice p 0 cap, .bool true]) ∧
      ∃ L' : List CN, L'.length = N ∧ IsChain X w' cb mb (L'.map some ++ [some (nodeA bA N x), some (nodeB bB N y)]) ∧ RowC nums L' (lastc N 2) ∧ Keep X W w' :=
  drop_held hN h hr (by omega) hpos (by simp; omega) (fun n hn => by simp at hn; rcases hn with rfl | rfl <;> simp [nodeA, nodeB])
theorem sets_a {bA bB : Nat} {x y : Int} (hN : L.length = N) (h : IsChain X W cb mb (L.map some ++ [some (nodeA bA N x), some (nodeB bB N y)])) (hr : RowC nums L (lastc N 2)) (hl : N ≤ 100) :
    Calls Try.prog 13 #[.pointer (some ⟨cb, 0, none⟩), .int .i64 (N : Int)] W fun e w' => ∃ v, e = .returned v ∧ IsRows (fun _ => True) w' v [nums.take N, [x]] ∧ Below W.heap.size W w' := by
  have h1 := sets_tail (k := 0) hN h hr hl rfl rfl 1 rfl (by omega)
  refine h1.mono ?_
  rintro e w' ⟨v, rfl, hv, hb⟩
  refine ⟨v, rfl, ?_, hb⟩
  have e2 := rows_a hr x
  rw [hr.nums, hN] at e2
  rw [← e2]
  exact hv.mono fun _ _ => trivial
theorem sets_b {bA bB : Nat} {x y : Int} (hN : L.length = N) (h : IsChain X W cb mb (L.map some ++ [some (nodeA bA N x), some (nodeB bB N y)])) (hr : RowC nums L (lastc N 2)) (hl : N ≤ 100) :
    Calls Try.prog 13 #[.pointer (some ⟨cb, 0, none⟩), .int .i64 ((N : Int) + 1)] W fun e w' => ∃ v, e = .returned v ∧ IsRows (fun _ => True) w' v [nums.take N ++ [y]] ∧ Below W.heap.size W w' := by
  have h1 := sets_tail (k := 1) hN h hr hl rfl rfl 0 rfl (by omega)
  refine h1.mono ?_
  rintro e w' ⟨v, rfl, hv, hb⟩
  refine ⟨v, rfl, ?_, hb⟩
  have e2 := rows_b hr y
  rw [hr.nums, hN] at e2
  rw [← e2]
  exact hv.mono fun _ _ => trivial
theorem drop_a' {bA bB : Nat} {x y : Int} (hN : L.length = N) (h : IsChain X W cb mb (L.map some ++ [some (nodeA bA N x), some (nodeB bB N y)])) (hr : RowC nums L (lastc N 2)) (hpos : 0 < N) (hl : N ≤ 100) :
    Calls Try.prog 11 #[.pointer (some ⟨cb, 0, none⟩), .int .i64 (N : Int)] W fun e w' => ∃ g cap, e = .returned (.tuple #[.slice (some ⟨g, 0, none⟩) 1 cap, .bool true]) ∧ g < w'.heap.size ∧ w'.cell? ⟨g, 0, none⟩ = some (.int .i64 100) ∧ W.heap.size ≤ g ∧
      ∃ L' : List CN, L'.length = N ∧ IsChain X w' cb mb (L'.map some ++ [none, some (nodeB bB N y)]) ∧ RowC nums L' (lastc N 1) ∧ Keep X W w' :=
  drop_a hN h hr hpos hl rfl rfl rfl
theorem back_b {bB : Nat} {y : Int} (hN : L.length = N) (h : IsChain X W cb mb (L.map some ++ [none, some (nodeB bB N y)])) (hr : RowC nums L (lastc N 1)) (hl : N ≤ 100) :
    Calls Try.prog 15 #[.pointer (some ⟨cb, 0, none⟩), .int .i64 ((N : Int) + 1)] W fun e w' => ∃ p cap, e = .returned (.slice p (N + 1) cap) ∧ Below W.heap.size W w' :=
  back_tail (k := 1) hN h hr hl rfl rfl
theorem live_b {bB : Nat} {y : Int} (hN : L.length = N) (h : IsChain X W cb mb (L.map some ++ [none, some (nodeB bB N y)])) :
    Calls Try.prog 14 #[.pointer (some ⟨cb, 0, none⟩)] W fun e w' => e = .returned (.int .i64 ((N : Int) + 1)) ∧ W = w' :=
  live_is h (N := N + 1) (by rw [cnt_app, hN]; rfl)
theorem drop_b' {bB : Nat} {y : Int} (hN : L.length = N) (h : IsChain X W cb mb (L.map some ++ [none, some (nodeB bB N y)])) (hr : RowC nums L (lastc N 1)) (hl : N ≤ 100) :
    Calls Try.prog 11 #[.pointer (some ⟨cb, 0, none⟩), .int .i64 ((N : Int) + 1)] W fun e w' => ∃ p cap M', e = .returned (.tuple #[.slice p (N + 1) cap, .bool true]) ∧ IsChain X w' cb mb M' ∧ cnt M' = 0 ∧ Keep X W w' :=
  drop_b hN h hr hl rfl rfl
end

/-! ### rows that are laid in a statement -/
theorem ints_lit {w : World} {b n cap : Nat} {xs : List Int} (hn : xs.length = n) (hb : b < w.heap.size) (hc : ∀ i x, xs[i]? = some x → w.cell? ⟨b, i, none⟩ = some (.int .i64 x)) : IsInts (fun _ => True) w (.slice (some ⟨b, 0, none⟩) n cap) xs :=
  ⟨some ⟨b, 0, none⟩, cap, by rw [hn], fun i x hi => ⟨b, 0, rfl, trivial, hb, by rw [Nat.zero_add]; exact hc i x hi⟩⟩
theorem ints_new (w : World) (x : Int) : IsInts (fun _ => True) (w.alloc (.cells #[.int .i64 x] 3)) (.slice (some ⟨w.heap.size, 0, none⟩) 1 1) [x] :=
  ints_lit rfl (by simp) fun i y hi => by
    match i, hi with
    | 0, hi => simp at hi; subst hi; simp
theorem rows_new2 {w : World} {u v : Value} {xs ys : List Int} (hu : IsInts (fun _ => True) w u xs) (hv : IsInts (fun _ => True) w v ys) : IsRows (fun _ => True) (w.alloc (.cells #[u, v] 22)) (.slice (some ⟨w.heap.size, 0, none⟩) 2 2) [xs, ys] := by
  have hb : Below w.heap.size w (w.alloc (.cells #[u, v] 22)) := (Below.refl _ w).alloc (Nat.le_refl _) _
  refine ⟨some ⟨w.heap.size, 0, none⟩, 2, rfl, fun i zs hi => ?_⟩
  match i, hi with
  | 0, hi => simp at hi; subst hi; exact ⟨w.heap.size, 0, u, rfl, trivial, by simp, blk_cell (blk_new w _) 0, hu.below hb⟩
  | 1, hi => simp at hi; subst hi; exact ⟨w.heap.size, 0, v, rfl, trivial, by simp, blk_cell (blk_new w _) 1, hv.below hb⟩
theorem rows_new1 {w : World} {u : Value} {xs : List Int} (hu : IsInts (fun _ => True) w u xs) : IsRows (fun _ => True) (w.alloc (.cells #[u] 22)) (.slice (some ⟨w.heap.size, 0, none⟩) 1 1) [xs] := by
  have hb : Below w.heap.size w (w.alloc (.cells #[u] 22)) := (Below.refl _ w).alloc (Nat.le_refl _) _
  refine ⟨some ⟨w.heap.size, 0, none⟩, 1, rfl, fun i zs hi => ?_⟩
  match i, hi with
  | 0, hi => simp at hi; subst hi; exact ⟨w.heap.size, 0, u, rfl, trivial, by simp, blk_cell (blk_new w _) 0, hu.below hb⟩

/-- The first row of rows. -/
theorem rows_first {R : Nat → Prop} {w : World} {v : Value} {xs : List Int} (h : IsRows R w v [xs]) : ∃ g off cap u, v = .slice (some ⟨g, off, none⟩) 1 cap ∧ R g ∧ g < w.heap.size ∧ w.cell? ⟨g, off, none⟩ = some u ∧ IsInts R w u xs := by
  obtain ⟨p, cap, rfl, hc⟩ := h
  obtain ⟨b, off, u, rfl, h1, h2, h3, h4⟩ := hc 0 xs rfl
  exact ⟨b, off, cap, u, rfl, h1, h2, h3, h4⟩

end Go.Proofs.Ythflfafenehofaa
