/-
  Rows that are made beside a chain: 'want' of ChainDeep.
-/
import Derived.Test.YthflfafenehofaaW7
import Derived.Maps.AppendAt
import Derived.Laws.OwnMore
namespace Go.Proofs.Ythflfafenehofaa
open Go.RowKit

/-- One row of the rows: its value, and what it lies beside. -/
def ints (xs : List Int) : List Value := xs.map (fun x => .int .i64 x)
structure Want (B : Nat) (X : Nat → Prop) (W : World) (v : Value) (rows : List (List Int)) (cs : List Value) : Prop where
  own : W.ownsRow B 22 1 v rows.length cs
  off : ∀ b, v.ownBlock = some b → ¬ X b
  row : ∀ (i : Nat) (xs : List Int), rows[i]? = some xs → ∃ vi : Value, cs[i]? = some vi ∧ W.ownsRow B 3 1 vi xs.length (ints xs)
  roff : ∀ (i : Nat) (vi : Value) (b : Nat), cs[i]? = some vi → vi.ownBlock = some b → ¬ X b ∧ v.ownBlock ≠ some b
  apart : ∀ (i j : Nat) (vi vj : Value) (b : Nat), cs[i]? = some vi → cs[j]? = some vj → vi.ownBlock = some b → vj.ownBlock = some b → i = j

theorem ownsRow_block {w w' : World} {base : Nat} {e : TypeId} {size : Nat} {v : Value} {n : Nat} {xs : List Value} (h : w.ownsRow base e size v n xs) (hb : ∀ b, v.ownBlock = some b → w'.heap[b]? = w.heap[b]?) : w'.ownsRow base e size v n xs := by
  obtain ⟨h1, h2⟩ := h
  refine ⟨h1, ?_⟩
  rcases h2 with h2 | ⟨g, cap, cur, hv, hg, hh, r⟩
  · exact .inl h2
  · exact .inr ⟨g, cap, cur, hv, hg, (hb g (by rw [hv]; rfl)).trans hh, r⟩

/-- What changes a chain's blocks alone, and takes new ones. -/
theorem Want.keep {B : Nat} {X X' : Nat → Prop} {W W' : World} {v : Value} {rows : List (List Int)} {cs : List Value} (h : Want B X W v rows cs) (k : Keep X W W') (hX : ∀ b, X' b → X b ∨ W.heap.size ≤ b) : Want B X' W' v rows cs := by
  obtain ⟨h1, h2, h3, h4, h5⟩ := h
  have hlt : ∀ b, v.ownBlock = some b → b < W.heap.size := fun b hb => (h1.lt b hb).2
  have hlen : cs.length = rows.length := by have := h1.1; omega
  have hex : ∀ i vi, cs[i]? = some vi → ∃ xs : List Int, W.ownsRow B 3 1 vi xs.length (ints xs) := fun i vi hi => by
    have hi' : i < rows.length := by have := (List.getElem?_eq_some_iff.1 hi).1; omega
    obtain ⟨vi', e1, e2⟩ := h3 i _ (List.getElem?_eq_getElem hi')
    rw [hi] at e1; cases e1
    exact ⟨_, e2⟩
  refine ⟨ownsRow_block h1 (fun b hb => k.block b (hlt b hb) (h2 b hb)), fun b hb hx => ?_, fun i xs hi => ?_, fun i vi b hi hb => ?_, h5⟩
  · rcases hX b hx with hx | hx
    · exact h2 b hb hx
    · have := hlt b hb; omega
  · obtain ⟨vi, e1, e2⟩ := h3 i xs hi
    exact ⟨vi, e1, ownsRow_block e2 (fun b hb => k.block b (e2.lt b hb).2 (h4 i vi b e1 hb).1)⟩
  · obtain ⟨g1, g2⟩ := h4 i vi b hi hb
    obtain ⟨xs, hxs⟩ := hex i vi hi
    refine ⟨fun hx => ?_, g2⟩
    rcases hX b hx with hx | hx
    · exact g1 hx
    · have := (hxs.lt b hb).2; omega

theorem grown_keep {W W' : World} {row : Option Nat} {Y : Nat → Prop} (h : W.grownBy W' row) (hr : ∀ k, row = some k → Y k) : Keep Y W W' :=
  ⟨h.os, h.tape, h.output, h.size, fun k hk hn => h.block k hk (fun e => hn (hr k e.symm))⟩

/-- 'append(want, nil)'. -/
theorem Want.more {B : Nat} {X : Nat → Prop} {W : World} {v : Value} {rows : List (List Int)} {cs : List Value} (h : Want B X W v rows cs) (hX : ∀ b, X b → b < W.heap.size) (hB : B ≤ W.heap.size) (hl : rows.length ≤ 1000) (ty : TypeId) :
    ∃ v' w', (Builtin.append_ #[26, 26] ty #[v, .slice (some ⟨W.heap.size, 0, none⟩) 1 1]).run Try.prog (W.alloc (.cells #[.slice none 0 0] 22)) = .ok v' w' ∧ Want B X w' v' (rows ++ [[]]) (cs ++ [.slice none 0 0]) ∧
      Keep (fun k => B ≤ k ∧ ¬ X k) W w' := by
  obtain ⟨h1, h2, h3, h4, h5⟩ := h
  obtain ⟨i0, hi, hz0, hz1, hz2⟩ := info_parts info22
  have hlen : cs.length = rows.length := by have := h1.1; omega
  have hown : (W.alloc (.cells #[.slice none 0 0] 22)).ownsRow B 22 1 v rows.length cs := h1.alloc _
  obtain ⟨v', w', hrun, hown', hgr, _, hat⟩ := run_append_own_at (P := Try.prog) (W.alloc (.cells #[.slice none 0 0] 22)) B 26 ty 22 i0 (.slice none 0 0) 1 24 Try.underlying26 hi hz0 hz1 hz2 rfl (by decide) v rows.length cs hown
    ⟨W.heap.size, 0, none⟩ 1 1 [.slice none 0 0] rfl (fun j u hu => by
      match j, hu with
      | 0, hu => simpa [Addr.add] using hu) (by simp [Value.oneCell']) (by unfold maxLen; omega) (by omega) (by simp; omega)
  have hkeep : Keep (fun k => B ≤ k ∧ ¬ X k) W w' := by
    refine ((Keep.refl _ W).alloc _).grown hgr fun k hk => .inl ?_
    exact ⟨(h1.lt k hk).1, h2 k hk⟩
  have hvb : ∀ b, v'.ownBlock = some b → v.ownBlock = some b ∨ W.heap.size + 1 ≤ b := by
    intro b hb
    rcases hat with e | e
    · rw [e] at hb; exact .inl hb
    · rw [hb] at e; injection e with e; right; have := World.size_alloc (w := W) (o := .cells #[.slice none 0 0] 22); omega
  have hrowk : ∀ (i : Nat) (vi : Value) (xs : List Int), cs[i]? = some vi → W.ownsRow B 3 1 vi xs.length (ints xs) → w'.ownsRow B 3 1 vi xs.length (ints xs) := fun i vi xs hi hx =>
    ownsRow_block hx fun b hb => (hgr.block b (by have := (hx.lt b hb).2; simp; omega) (fun e => (h4 i vi b hi hb).2 e.symm)).trans (Below.heap_alloc W _ b (hx.lt b hb).2)
  have hnew : ∀ (i : Nat) (vi : Value) (b : Nat), (cs ++ [Value.slice none 0 0])[i]? = some vi → vi.ownBlock = some b → cs[i]? = some vi := fun i vi b hi hb => by
    by_cases hlt : i < cs.length
    · rwa [List.getElem?_append_left hlt] at hi
    · rw [List.getElem?_append_right (by omega)] at hi
      cases hi' : i - cs.length with
      | zero => rw [hi'] at hi; simp at hi; subst hi; simp [Value.ownBlock] at hb
      | succ q => rw [hi'] at hi; simp at hi
  refine ⟨v', w', hrun, ⟨?_, fun b hb hx => ?_, fun i xs hi => ?_, fun i vi b hi hb => ?_, fun i j vi vj b hi hj hb hb' => h5 i j vi vj b (hnew i vi b hi hb) (hnew j vj b hj hb') hb hb'⟩, hkeep⟩
  · simpa using hown'
  · rcases hvb b hb with e | e
    · exact h2 b e hx
    · have := hX b hx; omega
  · by_cases hlt : i < rows.length
    · rw [List.getElem?_append_left hlt] at hi
      obtain ⟨vi, e1, e2⟩ := h3 i xs hi
      exact ⟨vi, by rw [List.getElem?_append_left (by omega)]; exact e1, hrowk i vi xs e1 e2⟩
    · rw [List.getElem?_append_right (by omega)] at hi
      have hi0 : i = rows.length := by
        have := (List.getElem?_eq_some_iff.1 hi).1
        simp at this
        omega
      subst hi0
      simp at hi
      subst hi
      exact ⟨.slice none 0 0, by rw [List.getElem?_append_right (by omega), hlen]; simp, World.ownsRow_nil _ _ _ _⟩
  · have hc := hnew i vi b hi hb
    obtain ⟨g1, g2⟩ := h4 i vi b hc hb
    refine ⟨g1, fun e => ?_⟩
    rcases hvb b e with e | e
    · exact g2 e
    · have hi' : i < rows.length := by have := (List.getElem?_eq_some_iff.1 hc).1; omega
      obtain ⟨vi', e1, e2⟩ := h3 i _ (List.getElem?_eq_getElem hi')
      rw [hc] at e1; cases e1
      have := (e2.lt b hb).2
      omega

/-- 'want[i] = append(want[i], x)'. -/
theorem Want.put {B : Nat} {X : Nat → Prop} {W : World} {v : Value} {rows : List (List Int)} {cs : List Value} (h : Want B X W v rows cs) (hX : ∀ b, X b → b < W.heap.size) (hB : B ≤ W.heap.size) (i : Nat) (xs : List Int) (hi : rows[i]? = some xs) (hl : xs.length ≤ 1000) (x : Int) (ty : TypeId) :
    ∃ g cap vi v' w', v = .slice (some ⟨g, 0, none⟩) rows.length cap ∧ g < W.heap.size ∧ W.cell? ⟨g, i, none⟩ = some vi ∧ W.frozen? ⟨g, i, none⟩ = false ∧
      (Builtin.append_ #[22, 22] ty #[vi, .slice (some ⟨W.heap.size, 0, none⟩) 1 1]).run Try.prog (W.alloc (.cells #[.int .i64 x] 3)) = .ok v' w' ∧
      w'.heap[g]? = W.heap[g]? ∧ (W.alloc (.cells #[.int .i64 x] 3)).grownBy w' vi.ownBlock ∧
      Want B X (w'.setCell ⟨g, i, none⟩ v') v (rows.modify i (· ++ [x])) (cs.set i v') ∧ Keep (fun k => B ≤ k ∧ ¬ X k) W (w'.setCell ⟨g, i, none⟩ v') := by
  obtain ⟨h1, h2, h3, h4, h5⟩ := h
  obtain ⟨i0, hi0, hz0, hz1, hz2⟩ := info_parts info3
  have hlen : cs.length = rows.length := by have := h1.1; omega
  have hil : i < rows.length := (List.getElem?_eq_some_iff.1 hi).1
  obtain ⟨vi, hvi, hrow⟩ := h3 i xs hi
  obtain ⟨_, ⟨_, h0⟩ | ⟨g, cap, cur, rfl, hg, hb, hc, hm, hs, ht⟩⟩ := id h1
  · omega
  have hgB : B ≤ g := hg
  have hgl : g < W.heap.size := blk_lt hb
  have hvg : (Value.slice (some ⟨g, 0, none⟩) rows.length cap).ownBlock = some g := rfl
  have hgv : vi.ownBlock ≠ some g := fun e => (h4 i vi g hvi e).2 rfl
  obtain ⟨v', w', hrun, hown', hgr, _, hat⟩ := run_append_own_at (P := Try.prog) (W.alloc (.cells #[.int .i64 x] 3)) B 22 ty 3 i0 (.int .i64 0) 1 8 Try.underlying22 hi0 hz0 hz1 hz2 rfl (by decide) vi xs.length (ints xs) (hrow.alloc _)
    ⟨W.heap.size, 0, none⟩ 1 1 [.int .i64 x] rfl (fun j u hu => by
      match j, hu with
      | 0, hu => simpa [Addr.add] using hu) (by simp [Value.oneCell']) (by unfold maxLen; omega) (by omega) (by simp; omega)
  have hgw : w'.heap[g]? = W.heap[g]? := (hgr.block g (by simp; omega) (fun e => hgv e.symm)).trans (Below.heap_alloc W _ g hgl)
  have hcell : W.cell? ⟨g, i, none⟩ = some vi := by rw [h1.cellAt i (by omega)]; exact hvi
  have hvb : ∀ b, v'.ownBlock = some b → vi.ownBlock = some b ∨ W.heap.size + 1 ≤ b := by
    intro b hb
    rcases hat with e | e
    · rw [e] at hb; exact .inl hb
    · rw [hb] at e; injection e with e; right; have := World.size_alloc (w := W) (o := .cells #[.int .i64 x] 3); omega
  have hlt : ∀ (j : Nat) (vj : Value) (b : Nat), cs[j]? = some vj → vj.ownBlock = some b → b < W.heap.size := fun j vj b hj hb => by
    have hj' : j < rows.length := by have := (List.getElem?_eq_some_iff.1 hj).1; omega
    obtain ⟨vj', e1, e2⟩ := h3 j _ (List.getElem?_eq_getElem hj')
    rw [hj] at e1; cases e1
    exact (e2.lt b hb).2
  have hgw' : (w'.setCell ⟨g, i, none⟩ v').heap[g]? = some (.cells (cur.setIfInBounds i v') 22) := blk_set (hgw.trans hb) i v'
  refine ⟨g, cap, vi, v', w', rfl, hgl, hcell, blk_free hb i, hrun, hgw, hgr, ⟨?_, h2, fun j ys hj => ?_, fun j vj b hj hb' => ?_, fun j k vj vk b hj hk hbj hbk => ?_⟩, ?_⟩
  · refine ⟨by rw [List.length_set, List.length_modify]; omega, .inr ⟨g, cap, _, by rw [List.length_modify], hg, hgw', by rw [List.length_modify]; exact hc, hm, by rw [Array.size_setIfInBounds]; exact hs, ?_⟩⟩
    rw [Array.toList_setIfInBounds, List.length_modify, List.take_set, ht]
  · rw [List.getElem?_modify] at hj
    obtain ⟨zs, hz1, hz2'⟩ := Option.map_eq_some_iff.1 hj
    by_cases e : i = j
    · subst e
      rw [hi] at hz1; cases hz1
      rw [if_pos rfl] at hz2'
      subst hz2'
      refine ⟨v', by rw [List.getElem?_set_self (by omega)], ?_⟩
      have : w'.ownsRow B 3 1 v' (xs ++ [x]).length (ints (xs ++ [x])) := by simpa [ints] using hown'
      refine ownsRow_block this fun b hb' => Below.heap_setCell _ _ _ b ?_
      rcases hvb b hb' with e | e
      · intro e2; subst e2; exact hgv e
      · show b ≠ g; omega
    · rw [if_neg e] at hz2'
      subst hz2'
      obtain ⟨vj, e1, e2⟩ := h3 j _ hz1
      refine ⟨vj, by rw [List.getElem?_set_ne e]; exact e1, ownsRow_block e2 fun b hb' => ?_⟩
      have hbg : b ≠ g := fun e3 => by subst e3; exact (h4 j vj b e1 hb').2 rfl
      refine (Below.heap_setCell _ _ _ b hbg).trans ((hgr.block b (by have := (e2.lt b hb').2; simp; omega) (fun e3 => e (h5 i j vi vj b hvi e1 e3.symm hb'))).trans (Below.heap_alloc W _ b (e2.lt b hb').2))
  · by_cases e : i = j
    · subst e
      rw [List.getElem?_set_self (by omega)] at hj
      cases hj
      rcases hvb b hb' with e | e
      · exact h4 i vi b hvi e
      · exact ⟨fun hx => by have := hX b hx; omega, fun e2 => by rw [hvg] at e2; cases e2; omega⟩
    · rw [List.getElem?_set_ne e] at hj
      exact h4 j vj b hj hb'
  · by_cases ej : i = j
    · by_cases ek : i = k
      · omega
      · subst ej
        rw [List.getElem?_set_self (by omega)] at hj
        cases hj
        rw [List.getElem?_set_ne ek] at hk
        rcases hvb b hbj with e | e
        · exact h5 i k vi vk b hvi hk e hbk
        · have := hlt k vk b hk hbk; omega
    · rw [List.getElem?_set_ne ej] at hj
      by_cases ek : i = k
      · subst ek
        rw [List.getElem?_set_self (by omega)] at hk
        cases hk
        rcases hvb b hbk with e | e
        · exact h5 j i vj vi b hj hvi hbj e
        · have := hlt j vj b hj hbj; omega
      · rw [List.getElem?_set_ne ek] at hk
        exact h5 j k vj vk b hj hk hbj hbk
  · refine Keep.setCell (((Keep.refl _ W).alloc _).grown hgr fun k hk => .inl ⟨(hrow.lt k hk).1, (h4 i vi k hvi hk).1⟩) (.inl ⟨hgB, h2 g rfl⟩) v'

/-- The rows as such. -/
theorem Want.rows {B : Nat} {X : Nat → Prop} {W : World} {v : Value} {rows : List (List Int)} {cs : List Value} (h : Want B X W v rows cs) : IsRows (fun _ => True) W v rows := by
  obtain ⟨h1, h2, h3, h4, h5⟩ := h
  obtain ⟨hl, ⟨rfl, h0⟩ | ⟨g, cap, cur, rfl, hg, hb, hc, hm, hs, ht⟩⟩ := id h1
  · exact ⟨none, 0, by rw [h0], fun i xs hi => by rw [List.eq_nil_of_length_eq_zero h0] at hi; simp at hi⟩
  · refine ⟨some ⟨g, 0, none⟩, cap, rfl, fun i xs hi => ?_⟩
    obtain ⟨vi, e1, e2⟩ := h3 i xs hi
    have hil : i < rows.length := (List.getElem?_eq_some_iff.1 hi).1
    refine ⟨g, 0, vi, rfl, trivial, blk_lt hb, by rw [Nat.zero_add, h1.cellAt i (by omega)]; exact e1, ?_⟩
    obtain ⟨hl', ⟨rfl, h0⟩ | ⟨g', cap', cur', rfl, hg', hb', hc', hm', hs', ht'⟩⟩ := id e2
    · exact ⟨none, 0, by rw [h0], fun i y hy => by rw [List.eq_nil_of_length_eq_zero h0] at hy; simp at hy⟩
    · refine ⟨some ⟨g', 0, none⟩, cap', rfl, fun j y hy => ⟨g', 0, rfl, trivial, blk_lt hb', ?_⟩⟩
      have hjl : j < xs.length := (List.getElem?_eq_some_iff.1 hy).1
      rw [Nat.zero_add, e2.cellAt j (by omega), ints, List.getElem?_map, hy]
      rfl

end Go.Proofs.Ythflfafenehofaa
