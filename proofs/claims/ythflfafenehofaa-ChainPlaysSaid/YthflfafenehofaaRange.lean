/-
  A range over an iterator that itself ranges over one: what the iterator may ask of a round, and a law for a body that never leaves.
-/
import Derived.Test.YthflfafenehofaaW6
namespace Go.Proofs.Ythflfafenehofaa
open Go.RowKit Go.Shelf

theorem keepsFrom_wider {B B' : Nat} {W W' : World} (h : KeepsFrom B W W') (hB : B ≤ B') : KeepsFrom B' W W' := ⟨h.size, fun k o hk h0 ho => h.same k o (Nat.le_trans hB hk) h0 ho⟩
theorem keepsFrom_turn {B l : Nat} {W : World} (hl : l < B) (o' : Obj) : KeepsFrom B W (W.putObj l o') :=
  ⟨by simp, fun k o hk h0 _ => (World.putObj_heap_other (by omega)).trans h0⟩

/-- An iterator whose steps may turn whatever is no cells and was laid since its call. -/
def SeqN {α : Type} (F : Fence) (n : Nat) (P : Program) (g : Nat) (lb : Array Value) (encs : α → Array Value) (Kp : World → World → Prop) (S : List α → Prop) (N : Nat) (w : World) : Prop :=
  ∀ (l : Nat) (J : List α → World → Prop) (W : World), Below w.heap.size w W → OwnFrom W.heap.size J →
    (∀ pre x W1, J pre W1 → pre.length < N → YieldAt F (n - 1) P l (encs x) W1 fun e W' => e = .returned (.bool true) ∧ J (pre ++ [x]) W' ∧ Kp W1 W' ∧ KeepsFrom W.heap.size W1 W') →
    J [] W →
    CallsIn F n P g (#[.func (.yield l) #[] #[]] ++ lb) W fun e W' => (∃ v, e = .returned v) ∧ ∃ xs, S xs ∧ J xs W'

section
variable {F : Fence} {n : Nat} {P : Program}
theorem wpIn_range_N {α : Type} {g : Operand} {ps : Array Tmp} {assign body : Code} {Q : Exit → Act → World → Prop} {a : Act} {w : World}
    (hro : F.round = none) (h1 : 1 ≤ n) {gf : Nat} {lb : Array Value} (hg : a.eval g = .func (.func gf) #[] lb) (hFg : F.fn gf) (eg : ∀ args w, (callFunc gf args).run P w = .ok (.enter gf args) w)
    {encs : α → Array Value} {Kp : World → World → Prop} {S : List α → Prop} {N : Nat} {w0 : World} (hseq : SeqN F (n - 1) P gf lb encs Kp S N w0)
    (hKt : ∀ {A B C : World}, Kp A B → Kp B C → Kp A C) (hKb : ∀ (W : World) (l : Nat) (o o' : Obj), W.heap[l]? = some o → o.isCells = false → o.isWalk = false → Kp W (W.putObj l o')) (hb0 : Below w0.heap.size w0 w) (hps : ∀ x, (encs x).size = ps.size)
    (I : List α → World → Prop) (hI : OwnFrom w.heap.size I) (h0 : I [] w) (Ax : α → Act → World → Prop) (hAx : ∀ x a', OwnFrom w.heap.size (fun (_ : Unit) W => Ax x a' W))
    (hassign : ∀ (l : Nat) (pre : List α) (x : α) (W : World) (K : Act → World → Prop), I pre W → (∀ a' W', KeepsFrom w.heap.size W W' → Kp W W' → I pre W' → Ax x a' W' → K a' W') →
      assign.wpIn (F.inRound l) (n - 1 - 1) P (Exit.then K (fun _ _ _ => False)) { tmps := (ps.zip (encs x)).foldl (fun t (p, v) => t.setIfInBounds p v) a.tmps, defers := [] } W)
    (hbody : ∀ (l : Nat) (pre : List α) (x : α) (a' : Act) (W : World), I pre W → Ax x a' W → pre.length < N →
      body.wpIn (F.inRound l) (n - 1 - 1) P (fun e _ W' => e = .normal ∧ KeepsFrom w.heap.size W W' ∧ Kp W W' ∧ I (pre ++ [x]) W') a' W)
    (hdone : ∀ (D : Nat) (xs : List α) (W : World), w.heap.size ≤ D → S xs → I xs W → W.heap[D]? = some (.deferred (some [])) → Q .normal { a with defers := { target := .collected D, args := #[] } :: a.defers } W) :
    (Code.rangeFunc g ps assign body).wpIn F n P Q a w := by
  refine wpIn_rangeFunc ?_
  intro fn hfn
  rw [hro]
  obtain ⟨rec, hrec⟩ : ∃ rec : LoopState → Option Code → Loop, rec = fun st pe => { state := st, pending := pe, fn, tmps := a.tmps, params := ps, assign, body, defers := w.heap.size } := ⟨_, rfl⟩
  obtain ⟨W1, hW1⟩ : ∃ W1, (w.alloc (.deferred (some []))).alloc (.loop (rec .ready none)) = W1 := ⟨_, rfl⟩
  have hs1 : W1.heap.size = w.heap.size + 2 := by rw [← hW1]; simp
  have hL1 : W1.heap[w.heap.size + 1]? = some (.loop (rec .ready none)) := by
    have := World.alloc_heap_new (w.alloc (.deferred (some []))) (.loop (rec .ready none))
    rw [← hW1]; rwa [World.size_alloc] at this
  have hK1 : W1.heap[w.heap.size]? = some (.deferred (some [])) := by rw [← hW1]; exact blk_alloc (blk_new w _) _
  have hI1 : I [] W1 := by rw [← hW1]; exact hI.alloc _ (hI.alloc _ h0)
  have hb1 : Below w0.heap.size w0 W1 := by
    rw [← hW1]; exact hb0.trans ((((Below.refl _ w).alloc (Nat.le_refl _) _).alloc (by simp) _).mono hb0.size)
  refine ⟨w.heap.size + 1, [{ target := .collected w.heap.size, args := #[] }], W1, { target := .fn (.func gf) lb, args := #[.func (.yield (w.heap.size + 1)) #[] #[]] }, W1, gf,
    #[.func (.yield (w.heap.size + 1)) #[] #[]] ++ lb, W1, ?_, ?_, ?_, ?_, fun _ => h1, ?_⟩
  · rw [← hW1, hrec]; exact run_enterLoop_outer _ _ _ _ _
  · simp only [resolve, hg]
    simp [go_sem]
  · intro f' hf'; simp [Target.leads] at hf'; subst hf'; exact hFg
  · simp [invoke, go_sem, eg]
  · refine (hseq (w.heap.size + 1) (fun pre W => I pre W ∧ W.heap[w.heap.size + 1]? = some (.loop (rec .ready none)) ∧ W.heap[w.heap.size]? = some (.deferred (some []))) W1 hb1
      (fun s A B row hs hg' hr => ⟨hI s A B row hs.1 hg' (fun r e => ⟨by have := (hr r e).1; omega, (hr r e).2⟩), (hg'.block _ (blk_lt hs.2.1) (fun e => by have := (hr _ e.symm).1; omega)).trans hs.2.1,
        (hg'.block _ (blk_lt hs.2.2) (fun e => by have := (hr _ e.symm).1; omega)).trans hs.2.2⟩)
      ?_ ⟨hI1, hL1, hK1⟩).mono ?_
    · rintro pre x W ⟨hi, hl, hk⟩ hlen
      have hy := run_yield (P := P) (args := encs x) hl (by rw [hrec]; exact hps x)
      rw [hrec] at hy
      refine ⟨fn, _, assign, body, hy, roundIn_of_wpIn hfn (hassign _ pre x W _ hi ?_)⟩
      intro a' Wa hkfa hkpa hia hax
      have hl' := hkfa.same _ _ (by omega) hl rfl
      have hk' := hkfa.same _ _ (Nat.le_refl _) hk rfl
      refine ⟨_, run_beginRound hl' (by rw [hrec]), ?_⟩
      have hl2 : (Wa.putObj (w.heap.size + 1) (.loop { rec .ready none with state := .busy })).heap[w.heap.size + 1]? = some (.loop { rec .ready none with state := .busy }) := World.putObj_heap_same (blk_lt hl')
      have hk2 : (Wa.putObj (w.heap.size + 1) (.loop { rec .ready none with state := .busy })).heap[w.heap.size]? = some (.deferred (some [])) := (World.putObj_heap_other (by omega)).trans hk'
      have hw2 : Kp Wa (Wa.putObj (w.heap.size + 1) (.loop { rec .ready none with state := .busy })) := hKb _ _ _ _ hl' rfl rfl
      refine wpIn_mono (hbody _ pre x a' _ (hI.putObj _ hia (by omega) hl' rfl) ((hAx x a').putObj (s := ()) _ hax (by omega) hl' rfl) hlen) ?_
      rintro e a3 W3 ⟨rfl, hk3, hkp3, hi3⟩
      have hl3 := hk3.same _ _ (by omega) hl2 rfl
      have hk4 := hk3.same _ _ (Nat.le_refl _) hk2 rfl
      have hr := run_endRound (P := P) none hl3
      refine ⟨_, _, hr, ⟨rfl, ⟨hI.putObj _ hi3 (by omega) hl3 rfl, ?_, (World.putObj_heap_other (by omega)).trans hk4⟩, hKt hkpa (hKt (hKt hw2 hkp3) (hKb _ _ _ _ hl3 rfl rfl)), ?_⟩⟩
      · have := World.putObj_heap_same (o := .loop (rec .ready none)) (blk_lt hl3)
        rw [hrec] at this ⊢
        exact this
      · exact (((keepsFrom_wider hkfa (by omega)).trans (keepsFrom_turn (by omega) _)).trans (keepsFrom_wider hk3 (by omega))).trans (keepsFrom_turn (by omega) _)
    · rintro e W2 ⟨⟨v, rfl⟩, xs, hS, hi, hl, hk⟩
      exact ⟨none, _, by have := run_endLoop (P := P) hl (by rw [hrec]; simp); rw [hrec] at this; exact this, hdone _ xs _ (Nat.le_refl _) hS (hI.putObj _ hi (by omega) hl rfl) ((World.putObj_heap_other (by omega)).trans hk)⟩
end

/-! ### what a round that collects refs keeps -/
/-- Objects that such a round does not turn. -/
def calmO : Obj → Bool
  | .cells _ t _ => t != 31 && t != 32
  | o => o.isWalk
structure Calm (W W' : World) : Prop where
  size : W.heap.size ≤ W'.heap.size
  same : ∀ (k : Nat) (o : Obj), W.heap[k]? = some o → calmO o = true → W'.heap[k]? = some o
theorem Calm.refl (W : World) : Calm W W := ⟨Nat.le_refl _, fun _ _ h _ => h⟩
theorem Calm.trans {A B C : World} (h : Calm A B) (k : Calm B C) : Calm A C := ⟨Nat.le_trans h.size k.size, fun i o hi ho => k.same i o (h.same i o hi ho) ho⟩
theorem Calm.of_grownBy {W W' : World} {row : Option Nat} (hg : W.grownBy W' row) (hr : ∀ j, row = some j → ∀ o, W.heap[j]? = some o → calmO o = false) : Calm W W' :=
  ⟨hg.size, fun k o hk ho => (hg.block k (blk_lt hk) (fun e => by rw [hr k e.symm o hk] at ho; cases ho)).trans hk⟩
theorem Calm.alloc (W : World) (o : Obj) : Calm W (W.alloc o) := Calm.of_grownBy (World.grownBy_alloc W o none) (fun j e => by cases e)
theorem Calm.turn {W : World} {l : Nat} {o : Obj} (o' : Obj) (hl : W.heap[l]? = some o) (hc : o.isCells = false) (hw : o.isWalk = false) : Calm W (W.putObj l o') :=
  ⟨by simp, fun k o2 hk ho => by
    by_cases e : k = l
    · subst e
      rw [hl] at hk; cases hk
      cases o <;> simp_all [calmO, Obj.isCells]
    · exact (World.putObj_heap_other e).trans hk⟩
theorem Calm.held {K : Nat → Prop} {A B : World} (h : Calm A B) (hK : ∀ k o, K k → A.heap[k]? = some o → calmO o = true) : Held K A B :=
  ⟨h.size, fun k hk hl => by
    obtain ⟨o, ho⟩ : ∃ o, A.heap[k]? = some o := ⟨_, Array.getElem?_eq_getElem hl⟩
    rw [ho]; exact h.same k o ho (hK k o hk ho)⟩

end Go.Proofs.Ythflfafenehofaa
