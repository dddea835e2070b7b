/-
  Rolls stay where a block of another type is written; two ids.
-/
import Derived.Test.YtlndkeofhcneaaaW10
import Derived.LaidEqlPtr
namespace Go.Proofs.Ytlndkeofhcneaaa
open Go.RowKit Go.Shelf

/-- All blocks of other types stay. -/
structure KeepT (T : TypeId → Prop) (W W' : World) : Prop where
  size : W.heap.size ≤ W'.heap.size
  block : ∀ (b : Nat) (C : Array Value) (t : TypeId), W.heap[b]? = some (.cells C t) → ¬ T t → W'.heap[b]? = some (.cells C t)
theorem KeepT.of_below {T : TypeId → Prop} {W W' : World} (h : Below W.heap.size W W') : KeepT T W W' := ⟨h.size, fun b _ _ hb _ => (h.block b (blk_lt hb)).trans hb⟩
theorem KeepT.trans {T : TypeId → Prop} {W W' W'' : World} (h : KeepT T W W') (k : KeepT T W' W'') : KeepT T W W'' := ⟨Nat.le_trans h.size k.size, fun b C t hb ht => k.block b C t (h.block b C t hb ht) ht⟩
theorem KeepT.of_grown {T : TypeId → Prop} {W W' : World} {row : Option Nat} (h : W.grownBy W' row) (hr : ∀ g, row = some g → ∃ C t, W.heap[g]? = some (.cells C t) ∧ T t) : KeepT T W W' :=
  ⟨h.size, fun b C t hb ht => by
    by_cases e : row = some b
    · obtain ⟨C', t', h1, h2⟩ := hr b e
      rw [hb] at h1
      injection h1 with h1
      injection h1 with _ h3
      subst h3
      exact absurd h2 ht
    · exact (h.block b (blk_lt hb) fun e' => e e'.symm).trans hb⟩
theorem TabOK.keep {T : TypeId → Prop} {W W' : World} {sl : Value} {win : Int} (h : TabOK W sl win) (k : KeepT T W W') (ht : ¬ T 65) : TabOK W' sl win := by
  rcases h with h | ⟨b, c, h1, h2⟩
  · exact .inl h
  · exact .inr ⟨b, c, h1, k.block b _ _ h2 ht⟩
theorem ownsRow_keep {T : TypeId → Prop} {w w' : World} {base : Nat} {e : TypeId} {size : Nat} {v : Value} {n : Nat} {xs : List Value} (h : w.ownsRow base e size v n xs) (k : KeepT T w w') (ht : ¬ T e) : w'.ownsRow base e size v n xs := by
  obtain ⟨h1, h2⟩ := h
  refine ⟨h1, ?_⟩
  rcases h2 with h2 | ⟨g, cap, cur, hv, hg, hh, r⟩
  · exact .inl h2
  · exact .inr ⟨g, cap, cur, hv, hg, k.block g _ _ hh ht, r⟩
theorem IsEnts.keep {T : TypeId → Prop} {W W' : World} {v : Value} {C : List EN} (h : IsEnts W v C) (k : KeepT T W W') (h48 : ¬ T 48) (h65 : ¬ T 65) : IsEnts W' v C :=
  ⟨ownsRow_keep h.own k h48, fun e he => (h.tab e he).keep k h65⟩
theorem IsRoll.keep {T : TypeId → Prop} {W W' : World} {r v : Value} {C : List EN} (h : IsRoll W r v C) (k : KeepT T W W') (h48 : ¬ T 48) (h58 : ¬ T 58) (h65 : ¬ T 65) : IsRoll W' r v C := by
  refine ⟨?_, h.ents.keep k h48 h65⟩
  rcases h.ptr with h | ⟨b, h1, h2⟩
  · exact .inl h
  · exact .inr ⟨b, h1, k.block b _ _ h2 h58⟩

theorem Asc.one {C : List EN} (h : Asc C) {j k : Nat} {a b : EN} (ha : C[j]? = some a) (hb : C[k]? = some b) (e : a.id = b.id) : j = k := by
  rcases Nat.lt_trichotomy j k with g | g | g
  · have := h j k a b ha hb g; omega
  · exact g
  · have := h k j b a hb ha g; omega
theorem IsRoll.cell' {W : World} {r v : Value} {C : List EN} (h : IsRoll W r v C) : ∃ p, r = .pointer p := by
  rcases h.ptr with ⟨h, _⟩ | ⟨b, h, _⟩
  · exact ⟨_, h⟩
  · exact ⟨_, h⟩

end Go.Proofs.Ytlndkeofhcneaaa
