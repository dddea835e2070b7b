/-
  What a call may turn: the blocks of a set, and new ones. A chain of nodes in memory, as a list of what is there.
-/
import Derived.Test.YthflfafenehofaaMaps
namespace Go.Proofs.Ythflfafenehofaa
open Go.MapKept Go.RowKit

/-- Beside the blocks of X all that was there is as it was. -/
structure Keep (X : Nat → Prop) (w w' : World) : Prop where
  os : w'.os = w.os
  tape : w'.tape = w.tape
  output : w'.output = w.output
  size : w.heap.size ≤ w'.heap.size
  block : ∀ k, k < w.heap.size → ¬ X k → w'.heap[k]? = w.heap[k]?

theorem Keep.refl (X : Nat → Prop) (w : World) : Keep X w w := ⟨rfl, rfl, rfl, Nat.le_refl _, fun _ _ _ => rfl⟩
theorem Keep.trans' {X X' : Nat → Prop} {a b c : World} (h : Keep X a b) (k : Keep X' b c) (hX : ∀ i, X' i → X i ∨ a.heap.size ≤ i) : Keep X a c :=
  ⟨k.os.trans h.os, k.tape.trans h.tape, k.output.trans h.output, Nat.le_trans h.size k.size, fun i hi hn =>
    (k.block i (Nat.lt_of_lt_of_le hi h.size) (fun hx => (hX i hx).elim hn (fun hge => absurd hi (by omega)))).trans (h.block i hi hn)⟩
theorem Keep.trans {X : Nat → Prop} {a b c : World} (h : Keep X a b) (k : Keep X b c) : Keep X a c := h.trans' k fun _ hx => .inl hx
theorem Keep.mono {X X' : Nat → Prop} {a b : World} (h : Keep X a b) (hX : ∀ i, i < a.heap.size → X i → X' i) : Keep X' a b :=
  ⟨h.os, h.tape, h.output, h.size, fun i hi hn => h.block i hi (fun hx => hn (hX i hi hx))⟩
theorem Keep.alloc {X : Nat → Prop} {a w : World} (h : Keep X a w) (o : Obj) : Keep X a (w.alloc o) :=
  ⟨h.os, h.tape, h.output, by have := h.size; simp; omega, fun i hi hn => (Below.heap_alloc w o i (Nat.lt_of_lt_of_le hi h.size)).trans (h.block i hi hn)⟩
theorem Keep.drew {X : Nat → Prop} {a w : World} (h : Keep X a w) : Keep X a w.drew := ⟨h.os, h.tape, h.output, h.size, h.block⟩
theorem Keep.setCell {X : Nat → Prop} {a w : World} (h : Keep X a w) {p : Addr} (hp : X p.block ∨ a.heap.size ≤ p.block) (v : Value) : Keep X a (w.setCell p v) :=
  ⟨h.os, h.tape, h.output, by have := h.size; simpa [World.setCell] using this, fun i hi hn => (Below.heap_setCell w p v i (by
    intro e; subst e; rcases hp with hp | hp
    · exact hn hp
    · omega)).trans (h.block i hi hn)⟩
theorem Keep.turned {X : Nat → Prop} {a w w' : World} (h : Keep X a w) {b : Nat} (hb : X b ∨ a.heap.size ≤ b) (h1 : w'.os = w.os) (h2 : w'.tape = w.tape) (h3 : w'.output = w.output) (h4 : w'.heap.size = w.heap.size)
    (h5 : ∀ i, i ≠ b → w'.heap[i]? = w.heap[i]?) : Keep X a w' :=
  ⟨h1.trans h.os, h2.trans h.tape, h3.trans h.output, by have := h.size; omega, fun i hi hn => (h5 i (by
    intro e; subst e; rcases hb with hp | hp
    · exact hn hp
    · omega)).trans (h.block i hi hn)⟩
theorem Keep.cell {X : Nat → Prop} {w w' : World} (h : Keep X w w') {p : Addr} (hp : p.block < w.heap.size) (hn : ¬ X p.block) : w'.cell? p = w.cell? p := World.cell?_of_block (w := w) (h.block p.block hp hn)
theorem Keep.frozen {X : Nat → Prop} {w w' : World} (h : Keep X w w') {p : Addr} (hp : p.block < w.heap.size) (hn : ¬ X p.block) : w'.frozen? p = w.frozen? p := World.frozen?_of_block (w := w) (h.block p.block hp hn)
theorem Keep.below {X : Nat → Prop} {w w' : World} (h : Keep X w w') {B : Nat} (hB : B ≤ w.heap.size) (hX : ∀ i, X i → B ≤ i) : Below B w w' :=
  ⟨h.os, h.tape, h.output, h.size, fun k hk => h.block k (Nat.lt_of_lt_of_le hk hB) (fun hx => by have := hX k hx; omega)⟩
theorem Keep.of_below {w w' : World} (h : Below w.heap.size w w') (X : Nat → Prop) : Keep X w w' := ⟨h.os, h.tape, h.output, h.size, fun k hk _ => h.block k hk⟩
theorem Keep.none {w w' : World} (h : Keep (fun _ => False) w w') : Below w.heap.size w w' := h.below (Nat.le_refl _) (fun _ f => f.elim)

theorem Keep.grown {X : Nat → Prop} {a w w' : World} {row : Option Nat} (h : Keep X a w) (hg : w.grownBy w' row) (hr : ∀ k, row = some k → X k ∨ a.heap.size ≤ k) : Keep X a w' :=
  ⟨hg.os.trans h.os, hg.tape.trans h.tape, hg.output.trans h.output, Nat.le_trans h.size hg.size, fun i hi hn => (hg.block i (Nat.lt_of_lt_of_le hi h.size) (by
    intro e
    rcases hr i e.symm with hx | hx
    · exact hn hx
    · omega)).trans (h.block i hi hn)⟩
theorem set_size (w : World) (p : Addr) (v : Value) : (w.setCell p v).heap.size = w.heap.size := by simp [World.setCell]

/-- A block of cells that may be written. -/
theorem blk_cell {w : World} {b : Nat} {C : Array Value} {t : TypeId} (h : w.heap[b]? = some (.cells C t)) (i : Nat) : w.cell? ⟨b, i, Option.none⟩ = C[i]? := by simp [World.cell?, h]
theorem blk_free {w : World} {b : Nat} {C : Array Value} {t : TypeId} (h : w.heap[b]? = some (.cells C t)) (i : Nat) : w.frozen? ⟨b, i, Option.none⟩ = false := by simp [World.frozen?, h]
theorem blk_lt {w : World} {b : Nat} {o : Obj} (h : w.heap[b]? = some o) : b < w.heap.size := (Array.getElem?_eq_some_iff.1 h).1
theorem blk_new (w : World) (o : Obj) : (w.alloc o).heap[w.heap.size]? = some o := (MapKept.heap_alloc w o).1
theorem blk_alloc {w : World} {b : Nat} {o' : Obj} (h : w.heap[b]? = some o') (o : Obj) : (w.alloc o).heap[b]? = some o' := (Below.heap_alloc w o b (blk_lt h)).trans h
theorem blk_set {w : World} {b : Nat} {C : Array Value} {t : TypeId} (h : w.heap[b]? = some (.cells C t)) (i : Nat) (v : Value) :
    (w.setCell ⟨b, i, Option.none⟩ v).heap[b]? = some (.cells (C.setIfInBounds i v) t) := by
  simp [World.setCell, Array.getElem?_modify, h]
theorem blk_far {w : World} {b b' : Nat} {o' : Obj} (h : w.heap[b]? = some o') (hb : b ≠ b') (i : Nat) (v : Value) : (w.setCell ⟨b', i, Option.none⟩ v).heap[b]? = some o' :=
  (Below.heap_setCell w ⟨b', i, Option.none⟩ v b hb).trans h

/-! ### a chain -/
/-- A node: where it lies, and what it holds. -/
structure CN where
  blk : Nat
  prev : Int
  cell : Int
  num : Int
  slot : Int
  gen : Int
  count : Int

/-- What is there, by ids from 0 on. -/
abbrev CS := List (Option CN)

def cget (M : CS) (k : Int) : Option CN := if 0 ≤ k then (M[k.toNat]?).join else none
def ptrOf : Option CN → Value
  | none => .pointer none
  | some n => .pointer (some ⟨n.blk, 0, none⟩)
def cval (n : CN) : Array Value := #[.int .i64 n.prev, .int .i64 n.cell, .int .i64 n.num, .int .i64 n.slot, .int .i64 n.gen, .int .i64 n.count]
def cnt (M : CS) : Nat := (M.filter Option.isSome).length
def cfun (M : CS) (k : Int) : Option Value := (cget M k).map fun n => .pointer (some ⟨n.blk, 0, none⟩)

theorem cfun_get (M : CS) (k : Int) : (cfun M k).getD (.pointer none) = ptrOf (cget M k) := by
  unfold cfun; cases cget M k <;> rfl

/-- A chain lies at block c, within the blocks of X. -/
def IsChain (X : Nat → Prop) (w : World) (c mb : Nat) (M : CS) : Prop :=
  X c ∧ X mb ∧ c ≠ mb ∧ (∀ k, X k → k < w.heap.size) ∧ w.heap[c]? = some (.cells #[.map (some mb), .int .i64 M.length] 58) ∧ IMap w mb (cfun M) (cnt M) ∧
    (∀ k n, cget M k = some n → X n.blk ∧ n.blk ≠ c ∧ n.blk ≠ mb ∧ w.heap[n.blk]? = some (.cells (cval n) 62)) ∧
    (∀ k n k' n', cget M k = some n → cget M k' = some n' → n.blk = n'.blk → k = k')

/-- It is the same where its blocks are. -/
theorem IsChain.same {X : Nat → Prop} {w w' : World} {c mb : Nat} {M : CS} (h : IsChain X w c mb M) (hs : w.heap.size ≤ w'.heap.size) (e : ∀ k, X k → w'.heap[k]? = w.heap[k]?) : IsChain X w' c mb M := by
  obtain ⟨h1, h2, h3, h4, h5, h6, h7, h8⟩ := h
  exact ⟨h1, h2, h3, fun k hk => Nat.lt_of_lt_of_le (h4 k hk) hs, (e c h1).trans h5, h6.same (e mb h2), fun k n hk => ⟨(h7 k n hk).1, (h7 k n hk).2.1, (h7 k n hk).2.2.1, (e _ (h7 k n hk).1).trans (h7 k n hk).2.2.2⟩, h8⟩
theorem IsChain.keep {X Y : Nat → Prop} {w w' : World} {c mb : Nat} {M : CS} (h : IsChain X w c mb M) (k : Keep Y w w') (hd : ∀ i, X i → ¬ Y i) : IsChain X w' c mb M := by
  have h4 : ∀ i, X i → i < w.heap.size := by obtain ⟨_, _, _, h4, _⟩ := h; exact h4
  exact h.same k.size fun i hi => k.block i (h4 i hi) (hd i hi)
theorem IsChain.grown {X : Nat → Prop} {w w' : World} {c mb : Nat} {M : CS} {row : Option Nat} (h : IsChain X w c mb M) (hg : w.grownBy w' row) (hr : ∀ k, row = some k → ¬ X k) : IsChain X w' c mb M := by
  have h4 : ∀ i, X i → i < w.heap.size := by obtain ⟨_, _, _, h4, _⟩ := h; exact h4
  exact h.same hg.size fun i hi => hg.block i (h4 i hi) (fun e => hr i e.symm hi)
theorem IsChain.lt {X : Nat → Prop} {w : World} {c mb : Nat} {M : CS} (h : IsChain X w c mb M) : ∀ i, X i → i < w.heap.size := by
  obtain ⟨_, _, _, h4, _⟩ := h; exact h4


/-! ### what is there, turned -/
theorem cget_some {M : CS} {k : Int} {n : CN} (h : cget M k = some n) : 0 ≤ k ∧ k.toNat < M.length ∧ M[k.toNat]? = some (some n) := by
  unfold cget at h
  split at h
  · rename_i h0
    cases hm : M[k.toNat]? with
    | none => simp [hm] at h
    | some x =>
      simp [hm] at h
      exact ⟨h0, (List.getElem?_eq_some_iff.1 hm).1, by rw [h]⟩
  · cases h
theorem cget_set {M : CS} {k : Int} {n : CN} (h : cget M k = some n) (x : Option CN) (k' : Int) : cget (M.set k.toNat x) k' = if k' = k then x else cget M k' := by
  obtain ⟨h0, h1, h2⟩ := cget_some h
  unfold cget
  by_cases e : k' = k
  · subst e
    simp [h0, h1]
  · rw [if_neg e]
    by_cases h3 : 0 ≤ k'
    · rw [if_pos h3, if_pos h3, List.getElem?_set_ne (by omega)]
    · rw [if_neg h3, if_neg h3]
theorem cget_push (M : CS) (x : Option CN) (k : Int) : cget (M ++ [x]) k = if k = M.length then x else cget M k := by
  unfold cget
  by_cases h0 : 0 ≤ k
  · rw [if_pos h0, if_pos h0]
    by_cases e : k = M.length
    · subst e; simp
    · rw [if_neg e]
      by_cases h1 : k.toNat < M.length
      · rw [List.getElem?_append_left h1]
      · rw [List.getElem?_eq_none (by simp; omega), List.getElem?_eq_none (by omega)]
  · rw [if_neg h0, if_neg h0, if_neg (by omega)]
theorem cget_new (M : CS) (k : Int) (h : (M.length : Int) ≤ k) : cget M k = none := by
  unfold cget
  split
  · rw [List.getElem?_eq_none (by omega)]; rfl
  · rfl
theorem cnt_push (M : CS) (n : CN) : cnt (M ++ [some n]) = cnt M + 1 := by simp [cnt]
theorem cnt_set_some : ∀ (M : CS) (i : Nat) (n n' : CN), M[i]? = some (some n) → cnt (M.set i (some n')) = cnt M
  | [], i, n, n', h => by simp at h
  | x :: M, 0, n, n', h => by
    obtain rfl : x = some n := by simpa using h
    simp [cnt]
  | x :: M, i + 1, n, n', h => by
    have := cnt_set_some M i n n' (by simpa using h)
    unfold cnt at this ⊢
    cases x <;> simp [this]
theorem cnt_set_none : ∀ (M : CS) (i : Nat) (n : CN), M[i]? = some (some n) → cnt (M.set i none) = cnt M - 1 ∧ 1 ≤ cnt M
  | [], i, n, h => by simp at h
  | x :: M, 0, n, h => by
    obtain rfl : x = some n := by simpa using h
    simp [cnt]
  | x :: M, i + 1, n, h => by
    have := cnt_set_none M i n (by simpa using h)
    unfold cnt at this ⊢
    cases x
    · simp [this]
    · simp; omega

/-- A node's count is turned. -/
theorem IsChain.recount {X : Nat → Prop} {w : World} {c mb : Nat} {M : CS} (h : IsChain X w c mb M) {k : Int} {n : CN} (hk : cget M k = some n) (v : Int) :
    IsChain X (w.setCell ⟨n.blk, 5, none⟩ (.int .i64 v)) c mb (M.set k.toNat (some { n with count := v })) := by
  obtain ⟨h1, h2, h3, h4, h5, h6, h7, h8⟩ := h
  obtain ⟨g0, g1, g2⟩ := cget_some hk
  obtain ⟨n1, n2, n3, n4⟩ := h7 k n hk
  have hf : cfun (M.set k.toNat (some { n with count := v })) = cfun M := by
    funext q
    unfold cfun
    rw [cget_set hk]
    by_cases e : q = k
    · subst e; rw [if_pos rfl, hk]; rfl
    · rw [if_neg e]
  refine ⟨h1, h2, h3, fun i hi => by have := h4 i hi; simpa [World.setCell] using this, ?_, ?_, ?_, ?_⟩
  · rw [List.length_set]; exact blk_far h5 (Ne.symm n2) _ _
  · rw [hf, cnt_set_some M _ n _ g2]
    exact h6.same (Below.heap_setCell w ⟨n.blk, 5, none⟩ _ mb (Ne.symm n3))
  · intro q m hq
    rw [cget_set hk] at hq
    by_cases e : q = k
    · subst e
      rw [if_pos rfl] at hq
      injection hq with hq
      subst hq
      exact ⟨n1, n2, n3, by have := blk_set n4 5 (.int .i64 v); simpa [cval] using this⟩
    · rw [if_neg e] at hq
      obtain ⟨m1, m2, m3, m4⟩ := h7 q m hq
      exact ⟨m1, m2, m3, blk_far m4 (fun e2 => e (h8 q m k n hq hk e2)) _ _⟩
  · intro q m q' m' hq hq' e
    rw [cget_set hk] at hq hq'
    by_cases e1 : q = k
    · by_cases e2 : q' = k
      · exact e1.trans e2.symm
      · rw [if_pos e1] at hq; rw [if_neg e2] at hq'
        injection hq with hq; subst hq
        exact e1.trans (h8 k n q' m' hk hq' e)
    · rw [if_neg e1] at hq
      by_cases e2 : q' = k
      · rw [if_pos e2] at hq'
        injection hq' with hq'; subst hq'
        exact (h8 q m k n hq hk e).trans e2.symm
      · rw [if_neg e2] at hq'
        exact h8 q m q' m' hq hq' e

/-- A node's cells. -/
theorem IsChain.cells {X : Nat → Prop} {w : World} {c mb : Nat} {M : CS} (h : IsChain X w c mb M) {k : Int} {n : CN} (hk : cget M k = some n) :
    w.cell? ⟨n.blk, 0, none⟩ = some (.int .i64 n.prev) ∧ w.cell? ⟨n.blk, 1, none⟩ = some (.int .i64 n.cell) ∧ w.cell? ⟨n.blk, 2, none⟩ = some (.int .i64 n.num) ∧
    w.cell? ⟨n.blk, 3, none⟩ = some (.int .i64 n.slot) ∧ w.cell? ⟨n.blk, 4, none⟩ = some (.int .i64 n.gen) ∧ w.cell? ⟨n.blk, 5, none⟩ = some (.int .i64 n.count) ∧
    w.frozen? ⟨n.blk, 5, none⟩ = false ∧ n.blk < w.heap.size ∧ X n.blk := by
  obtain ⟨h1, h2, h3, h4, h5, h6, h7, h8⟩ := h
  obtain ⟨n1, n2, n3, n4⟩ := h7 k n hk
  exact ⟨blk_cell n4 0, blk_cell n4 1, blk_cell n4 2, blk_cell n4 3, blk_cell n4 4, blk_cell n4 5, blk_free n4 5, blk_lt n4, n1⟩


theorem IsChain.alloc {X : Nat → Prop} {w : World} {c mb : Nat} {M : CS} (h : IsChain X w c mb M) (o : Obj) : IsChain X (w.alloc o) c mb M :=
  h.same (by simp) fun k hk => Below.heap_alloc _ _ _ (h.lt k hk)
theorem IsChain.drew {X : Nat → Prop} {w : World} {c mb : Nat} {M : CS} (h : IsChain X w c mb M) : IsChain X w.drew c mb M := h

/-- A new node is put. -/
theorem IsChain.put {P : Program} (hT : P.underlying 56 = some (.map 3 59)) (hK : P.underlying 3 = some (.int .i64)) {X : Nat → Prop} {W : World} {c mb : Nat} {M : CS} (h : IsChain X W c mb M) (n : CN) (hn : ¬ X n.blk) (hb : W.heap[n.blk]? = some (.cells (cval n) 62)) :
    W.cell? ⟨c, 0, none⟩ = some (.map (some mb)) ∧ ∃ w2, (Instr.mapUpdate 56 (.map (some mb)) (.int .i64 M.length) (.pointer (some ⟨n.blk, 0, none⟩))).run P W = .ok () w2 ∧
      w2.cell? ⟨c, 1, none⟩ = some (.int .i64 M.length) ∧ w2.frozen? ⟨c, 1, none⟩ = false ∧ c < w2.heap.size ∧
      IsChain (fun k => X k ∨ k = n.blk) (w2.setCell ⟨c, 1, none⟩ (.int .i64 ((M.length : Int) + 1))) c mb (M ++ [some n]) ∧ Keep X W (w2.setCell ⟨c, 1, none⟩ (.int .i64 ((M.length : Int) + 1))) ∧ w2.cell? ⟨c, 0, none⟩ = some (.map (some mb)) ∧
      ∀ a : Addr, ¬ X a.block → w2.cell? a = W.cell? a := by
  obtain ⟨h1, h2, h3, h4, h5, h6, h7, h8⟩ := h
  obtain ⟨w2, hrun, hm, g1, g2, g3, g4, g5⟩ := h6.store hT hK (M.length : Int) (.pointer (some ⟨n.blk, 0, none⟩)) (by unfold cfun; rw [cget_new M _ (Int.le_refl _)]; rfl)
  have hcb : c ≠ n.blk := fun e => hn (e ▸ h1)
  have hmn : n.blk ≠ mb := fun e => hn (e ▸ h2)
  have q5 : w2.heap[c]? = some (.cells #[.map (some mb), .int .i64 M.length] 58) := (g5 c h3).trans h5
  refine ⟨blk_cell h5 0, w2, hrun, blk_cell q5 1, blk_free q5 1, blk_lt q5, ?_, ?_, blk_cell q5 0, fun a ha => World.cell?_of_block (w := W) (g5 a.block (fun e => ha (e ▸ h2)))⟩
  · refine ⟨.inl h1, .inl h2, h3, ?_, ?_, ?_, ?_, ?_⟩
    · intro k hk
      have : k < W.heap.size := by
        rcases hk with hk | hk
        · exact h4 k hk
        · rw [hk]; exact blk_lt hb
      simp [World.setCell]; omega
    · have := blk_set q5 1 (.int .i64 ((M.length : Int) + 1))
      simpa using this
    · have hf : cfun (M ++ [some n]) = fun q => if q = (M.length : Int) then some (.pointer (some ⟨n.blk, 0, none⟩)) else cfun M q := by
        funext q
        unfold cfun
        rw [cget_push]
        by_cases e : q = (M.length : Int)
        · rw [if_pos e, if_pos e]; rfl
        · rw [if_neg e, if_neg e]
      rw [hf, cnt_push]
      exact hm.same (Below.heap_setCell w2 ⟨c, 1, none⟩ _ mb (Ne.symm h3))
    · intro q m hq
      rw [cget_push] at hq
      by_cases e : q = (M.length : Int)
      · rw [if_pos e] at hq
        injection hq with hq; subst hq
        exact ⟨.inr rfl, Ne.symm hcb, hmn, blk_far ((g5 _ hmn).trans hb) (Ne.symm hcb) _ _⟩
      · rw [if_neg e] at hq
        obtain ⟨m1, m2, m3, m4⟩ := h7 q m hq
        exact ⟨.inl m1, m2, m3, blk_far ((g5 _ m3).trans m4) m2 _ _⟩
    · intro q m q' m' hq hq' e
      rw [cget_push] at hq hq'
      by_cases e1 : q = (M.length : Int)
      · by_cases e2 : q' = (M.length : Int)
        · exact e1.trans e2.symm
        · rw [if_pos e1] at hq; rw [if_neg e2] at hq'
          injection hq with hq; subst hq
          exact (hn (e ▸ (h7 q' m' hq').1)).elim
      · rw [if_neg e1] at hq
        by_cases e2 : q' = (M.length : Int)
        · rw [if_pos e2] at hq'
          injection hq' with hq'; subst hq'
          exact (hn (e ▸ (h7 q m hq).1)).elim
        · rw [if_neg e2] at hq'
          exact h8 q m q' m' hq hq' e
  · exact ((Keep.refl X W).turned (.inl h2) g1 g2 g3 g4 g5).setCell (.inl h1) _

/-- A node that is let go. -/
theorem IsChain.gone {P : Program} {ty : TypeId} (hT : P.underlying 56 = some (.map 3 59)) (hK : P.underlying 3 = some (.int .i64)) {X : Nat → Prop} {W : World} {c mb : Nat} {M : CS} (h : IsChain X W c mb M) {k : Int} {n : CN} (hk : cget M k = some n) :
    W.cell? ⟨c, 0, none⟩ = some (.map (some mb)) ∧ ∃ w2, (Builtin.delete_ #[56, 3] ty #[.map (some mb), .int .i64 k]).run P W = .ok (.tuple #[]) w2 ∧
      IsChain X w2 c mb (M.set k.toNat none) ∧ Keep X W w2 ∧ w2.heap[n.blk]? = W.heap[n.blk]? := by
  obtain ⟨h1, h2, h3, h4, h5, h6, h7, h8⟩ := h
  obtain ⟨w2, hrun, hm, _, g1, g2, g3, g4, g5⟩ := h6.erase (ty := ty) hT hK k (by unfold cfun; rw [hk]; simp)
  obtain ⟨k0, k1, k2⟩ := cget_some hk
  obtain ⟨n1, n2, n3, n4⟩ := h7 k n hk
  refine ⟨blk_cell h5 0, w2, hrun, ?_, (Keep.refl X W).turned (.inl h2) g1 g2 g3 g4 g5, g5 _ n3⟩
  have hf : cfun (M.set k.toNat none) = fun q => if q = k then none else cfun M q := by
    funext q
    unfold cfun
    rw [cget_set hk]
    by_cases e : q = k
    · rw [if_pos e, if_pos e]; rfl
    · rw [if_neg e, if_neg e]
  refine ⟨h1, h2, h3, fun i hi => by have := h4 i hi; omega, ?_, ?_, ?_, ?_⟩
  · rw [List.length_set]; exact (g5 c h3).trans h5
  · rw [hf, (cnt_set_none M _ n k2).1]; exact hm
  · intro q m hq
    rw [cget_set hk] at hq
    by_cases e : q = k
    · rw [if_pos e] at hq; cases hq
    · rw [if_neg e] at hq
      obtain ⟨m1, m2, m3, m4⟩ := h7 q m hq
      exact ⟨m1, m2, m3, (g5 _ m3).trans m4⟩
  · intro q m q' m' hq hq' e
    rw [cget_set hk] at hq hq'
    by_cases e1 : q = k
    · rw [if_pos e1] at hq; cases hq
    · by_cases e2 : q' = k
      · rw [if_pos e2] at hq'; cases hq'
      · rw [if_neg e1] at hq; rw [if_neg e2] at hq'
        exact h8 q m q' m' hq hq' e

end Go.Proofs.Ythflfafenehofaa
