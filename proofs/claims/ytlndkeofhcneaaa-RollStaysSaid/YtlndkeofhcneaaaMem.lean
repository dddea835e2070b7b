/-
  Rows of entries in memory; a roll.
-/
import Derived.Test.YtlndkeofhcneaaaRows
import Derived.WalkKit
import Derived.ProofKit
import Derived.Below
import Derived.Maps.AppendAt
import Derived.Laws.OwnMore
import Derived.Deep.AppendSrc
import Derived.Lib.Hide
import Derived.MapKept
import Derived.Laws.ResultCell
import Derived.BigQuiet
import Derived.Shelf.Abstract
namespace Go.Proofs.Ytlndkeofhcneaaa
open Go.RowKit

/-! ### blocks -/
theorem blk_cell {w : World} {b : Nat} {C : Array Value} {t : TypeId} (h : w.heap[b]? = some (.cells C t)) (i : Nat) : w.cell? ⟨b, i, Option.none⟩ = C[i]? := by simp [World.cell?, h]
theorem blk_free {w : World} {b : Nat} {C : Array Value} {t : TypeId} (h : w.heap[b]? = some (.cells C t)) (i : Nat) : w.frozen? ⟨b, i, Option.none⟩ = false := by simp [World.frozen?, h]
theorem blk_lt {w : World} {b : Nat} {o : Obj} (h : w.heap[b]? = some o) : b < w.heap.size := (Array.getElem?_eq_some_iff.1 h).1
theorem blk_new (w : World) (o : Obj) : (w.alloc o).heap[w.heap.size]? = some o := (MapKept.heap_alloc w o).1
theorem blk_alloc {w : World} {b : Nat} {o' : Obj} (h : w.heap[b]? = some o') (o : Obj) : (w.alloc o).heap[b]? = some o' := (Below.heap_alloc w o b (blk_lt h)).trans h
theorem blk_set {w : World} {b : Nat} {C : Array Value} {t : TypeId} (h : w.heap[b]? = some (.cells C t)) (i : Nat) (v : Value) :
    (w.setCell ⟨b, i, Option.none⟩ v).heap[b]? = some (.cells (C.setIfInBounds i v) t) := by
  simp [World.setCell, Array.getElem?_modify, h]
theorem below_drew (w : World) : Below w.heap.size w w.drew := ⟨rfl, rfl, rfl, Nat.le_refl _, fun _ _ => rfl⟩
theorem below_drewN (w : World) (n : Nat) : Below w.heap.size w (w.drewN n) := ⟨rfl, rfl, rfl, Nat.le_refl _, fun _ _ => rfl⟩
theorem below_alloc (w : World) (o : Obj) : Below w.heap.size w (w.alloc o) := (Below.refl _ _).alloc (Nat.le_refl _) _
/-- One call behind the other. -/
theorem below_then {a b c : World} (h : Below a.heap.size a b) (k : Below b.heap.size b c) : Below a.heap.size a c := h.trans (k.mono h.size)
theorem below_grown {W W' : World} {row : Option Nat} (h : W.grownBy W' row) {n : Nat} (hn : n ≤ W.heap.size) (hr : ∀ k, row = some k → n ≤ k) : Below n W W' :=
  ⟨h.os, h.tape, h.output, h.size, fun k hk => h.block k (Nat.lt_of_lt_of_le hk hn) (fun e => by have := hr k e.symm; omega)⟩
theorem ownsRow_block {w w' : World} {base : Nat} {e : TypeId} {size : Nat} {v : Value} {n : Nat} {xs : List Value} (h : w.ownsRow base e size v n xs) (hb : ∀ b, v.ownBlock = some b → w'.heap[b]? = w.heap[b]?) : w'.ownsRow base e size v n xs := by
  obtain ⟨h1, h2⟩ := h
  refine ⟨h1, ?_⟩
  rcases h2 with h2 | ⟨g, cap, cur, hv, hg, hh, r⟩
  · exact .inl h2
  · exact .inr ⟨g, cap, cur, hv, hg, (hb g (by rw [hv]; rfl)).trans hh, r⟩
theorem ownsRow_set {W : World} {B : Nat} {e : TypeId} {size n g : Nat} {cap : Nat} {xs : List Value} (h : W.ownsRow B e size (.slice (some ⟨g, 0, none⟩) n cap) n xs) (i : Nat) (u : Value) :
    (W.setCell ⟨g, i, none⟩ u).ownsRow B e size (.slice (some ⟨g, 0, none⟩) n cap) n (xs.set i u) := by
  obtain ⟨hl, ⟨h1, _⟩ | ⟨g', cap', cur, h1, hg, hb, hc, hm, hs, ht⟩⟩ := h
  · cases h1
  · cases h1
    refine ⟨by rw [List.length_set]; exact hl, .inr ⟨g, cap, _, rfl, hg, blk_set hb i u, hc, hm, by rw [Array.size_setIfInBounds]; exact hs, ?_⟩⟩
    rw [Array.toList_setIfInBounds, List.take_set, ht]

theorem results_cell1 {fn : Func} {p : Tmp} {ty : TypeId} (h : fn.results = #[.cell p ty]) (tmps : Array Value) (P : Program) (w : World) :
    (results fn tmps).run P w = ((asAddr (tmps.getD p undef)).run P w).andThen fun a w₁ => (loadVar ty a).run P w₁ := by
  simp only [results, h]
  simp [Sem.run_bind, Result.andThen]

/-! ### entries -/
/-- An entry: its numbers, its table's cells, and the table's number. -/
structure EN where
  id : Int
  to : Int
  win : Int
  sp : Option Addr
  sn : Nat
  sc : Nat

def ev (e : EN) : List Value := [.int .i64 e.id, .int .i64 e.to, .slice e.sp e.sn e.sc, .int .i64 e.win, .bool false]
def env (C : List EN) : List Value := C.flatMap ev
theorem env_length (C : List EN) : (env C).length = C.length * 5 := by
  induction C with
  | nil => rfl
  | cons a R ih => simp [env, ev] at ih ⊢; omega
theorem env_get : ∀ (C : List EN) (k f : Nat) (r : EN), C[k]? = some r → f < 5 → (env C)[k * 5 + f]? = (ev r)[f]?
  | [], k, f, r, h, _ => by simp at h
  | a :: R, 0, f, r, h, hf => by
    obtain rfl : a = r := by simpa using h
    have : f < (ev a).length := hf
    simp only [env, List.flatMap_cons]
    rw [Nat.zero_mul, Nat.zero_add, List.getElem?_append_left this]
  | a :: R, k + 1, f, r, h, hf => by
    have ih := env_get R k f r (by simpa using h) hf
    have hl : (ev a).length = 5 := rfl
    simp only [env, List.flatMap_cons] at ih ⊢
    rw [List.getElem?_append_right (by omega), hl, show (k + 1) * 5 + f - 5 = k * 5 + f from by omega, ih]
theorem env_snoc (C : List EN) (r : EN) : env (C ++ [r]) = env C ++ ev r := by simp [env]
theorem env_to : ∀ (C : List EN) (k : Nat) (r : EN) (x : Int), C[k]? = some r → (env C).set (k * 5 + 1) (.int .i64 x) = env (C.set k { r with to := x })
  | [], k, r, x, h => by simp at h
  | a :: R, 0, r, x, h => by
    obtain rfl : a = r := by simpa using h
    rfl
  | a :: R, k + 1, r, x, h => by
    have ih := env_to R k r x (by simpa using h)
    have hl : (ev a).length = 5 := rfl
    simp only [env, List.flatMap_cons, List.set_cons_succ] at ih ⊢
    rw [List.set_append_right _ _ (by omega), hl, show (k + 1) * 5 + 1 - 5 = k * 5 + 1 from by omega, ih]

/-- An entry's table: none, or that of a kind. -/
def TabOK (W : World) (sl : Value) (win : Int) : Prop :=
  (sl = .slice none 0 0 ∧ win = 0) ∨ ∃ b c, sl = .slice (some ⟨b, 0, none⟩) 1 c ∧ W.heap[b]? = some (.cells #[.int .i64 win, .bool false, .slice none 0 0, .slice none 0 0] 65)
theorem TabOK.below {W W' : World} {sl : Value} {win : Int} (h : TabOK W sl win) (k : Below W.heap.size W W') : TabOK W' sl win := by
  rcases h with h | ⟨b, c, h1, h2⟩
  · exact .inl h
  · exact .inr ⟨b, c, h1, (k.block b (blk_lt h2)).trans h2⟩

structure IsEnts (W : World) (v : Value) (C : List EN) : Prop where
  own : W.ownsRow 0 48 5 v C.length (env C)
  tab : ∀ e ∈ C, TabOK W (.slice e.sp e.sn e.sc) e.win
theorem IsEnts.nil (W : World) : IsEnts W (.slice none 0 0) [] := ⟨World.ownsRow_nil _ _ _ _, fun e h => by cases h⟩
theorem IsEnts.below {W W' : World} {v : Value} {C : List EN} (h : IsEnts W v C) (k : Below W.heap.size W W') : IsEnts W' v C :=
  ⟨ownsRow_block h.own fun b hb => k.block b (h.own.lt b hb).2, fun e he => (h.tab e he).below k⟩
/-- What its cells hold. -/
theorem IsEnts.cells {W : World} {v : Value} {C : List EN} (h : IsEnts W v C) :
    (v = .slice none 0 0 ∧ C = []) ∨ ∃ g cap, v = .slice (some ⟨g, 0, none⟩) C.length cap ∧ g < W.heap.size ∧ C.length ≤ cap ∧ (∀ i, W.frozen? ⟨g, i, none⟩ = false) ∧
      ∀ (k : Nat) (r : EN), C[k]? = some r → W.cell? ⟨g, k * 5, none⟩ = some (.int .i64 r.id) ∧ W.cell? ⟨g, k * 5 + 1, none⟩ = some (.int .i64 r.to) ∧ W.cell? ⟨g, k * 5 + 2, none⟩ = some (.slice r.sp r.sn r.sc) ∧
        W.cell? ⟨g, k * 5 + 3, none⟩ = some (.int .i64 r.win) ∧ W.cell? ⟨g, k * 5 + 4, none⟩ = some (.bool false) := by
  obtain ⟨hl, ⟨h1, h2⟩ | ⟨g, cap, cur, rfl, hg, hb, hc, hm, hs, ht⟩⟩ := h.own
  · exact .inl ⟨h1, List.eq_nil_of_length_eq_zero h2⟩
  · refine .inr ⟨g, cap, rfl, blk_lt hb, hc, fun i => blk_free hb i, fun k r hr => ?_⟩
    have hk := (List.getElem?_eq_some_iff.1 hr).1
    have key : ∀ f, f < 5 → W.cell? ⟨g, k * 5 + f, none⟩ = (ev r)[f]? := fun f hf => by
      rw [h.own.cellAt (k * 5 + f) (by omega)]
      exact env_get C k f r hr hf
    exact ⟨key 0 (by omega), key 1 (by omega), key 2 (by omega), key 3 (by omega), key 4 (by omega)⟩
theorem IsEnts.slice {W : World} {v : Value} {C : List EN} (h : IsEnts W v C) : ∃ p cap, v = .slice p C.length cap := by
  rcases h.cells with ⟨rfl, rfl⟩ | ⟨g, cap, h, _⟩
  · exact ⟨none, 0, rfl⟩
  · exact ⟨_, _, h⟩

/-- A roll: nil, or a struct of one row. -/
structure IsRoll (W : World) (r v : Value) (C : List EN) : Prop where
  ptr : (r = .pointer none ∧ v = .slice none 0 0 ∧ C = []) ∨ ∃ b, r = .pointer (some ⟨b, 0, none⟩) ∧ W.heap[b]? = some (.cells #[v] 58)
  ents : IsEnts W v C
theorem IsRoll.nil (W : World) : IsRoll W (.pointer none) (.slice none 0 0) [] := ⟨.inl ⟨rfl, rfl, rfl⟩, IsEnts.nil W⟩
theorem IsRoll.below {W W' : World} {r v : Value} {C : List EN} (h : IsRoll W r v C) (k : Below W.heap.size W W') : IsRoll W' r v C := by
  refine ⟨?_, h.ents.below k⟩
  rcases h.ptr with h | ⟨b, h1, h2⟩
  · exact .inl h
  · exact .inr ⟨b, h1, (k.block b (blk_lt h2)).trans h2⟩

/-- Ids rise. -/
def Asc (C : List EN) : Prop := ∀ (j k : Nat) (a b : EN), C[j]? = some a → C[k]? = some b → j < k → a.id < b.id
theorem Asc.nil : Asc [] := fun j k a b h => by simp at h

/-- What an entry's value is. -/
def entV (e : EN) : Value := .agg #[.int .i64 e.id, .int .i64 e.to, .slice e.sp e.sn e.sc, .int .i64 e.win, .bool false]

end Go.Proofs.Ytlndkeofhcneaaa
