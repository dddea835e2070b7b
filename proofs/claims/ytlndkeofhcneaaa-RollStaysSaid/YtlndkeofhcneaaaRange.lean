/-
  A range over an iterator that itself ranges over one: what the iterator may ask of a round, and a law for a body that never leaves.
-/
import Derived.Test.YtlndkeofhcneaaaMem
import Derived.RangeFuncNested
import Derived.RangeFuncBound
import Derived.RangeFuncBox
import Derived.RangeFuncCalls
import Derived.RangeFuncLeaves
import Derived.OwnWalkIn
import Derived.TacticsInMore
import Derived.LoopNIn
import Derived.LoopIn
import Derived.Sort.QuietIn
import Derived.Shelf.RegionOpen
namespace Go.Proofs.Ytlndkeofhcneaaa
open Go.RowKit Go.Shelf

theorem keepsFrom_wider {B B' : Nat} {W W' : World} (h : KeepsFrom B W W') (hB : B ≤ B') : KeepsFrom B' W W' := ⟨h.size, fun k o hk h0 ho => h.same k o (Nat.le_trans hB hk) h0 ho⟩
theorem keepsFrom_turn {B l : Nat} {W : World} (hl : l < B) (o' : Obj) : KeepsFrom B W (W.putObj l o') :=
  ⟨by simp, fun k o hk h0 _ => (World.putObj_heap_other (by omega)).trans h0⟩

/-- An iterator whose steps may turn whatever is no cells and was laid since its call. -/
def SeqN {α : Type} (F : Fence) (n : Nat) (P : Program) (g : Nat) (lb : Array Value) (encs : α → Array Value) (Kp : World → World → Prop) (S : List α → Prop) (N : Nat) (w : World) : Prop :=
  ∀ (l : Nat) (J : List α → World → Prop) (W : World), Below w.heap.size w W → OwnFrom W.heap.size J →
    (∀ pre x W1, J pre W1 → pre.length < N → YieldAt F (n - 1) P l (encs x) W1 fun e W' => e = .returned (.bool true) ∧ J (pre ++ [x]) W' ∧ Kp W1 W' ∧ KeepsFrom W.heap.size W1 W') →
    J [] W →
    CallsIn F n P g (#[.func (.yield l) #[] #[]] ++ lb) W fun e W' => (∃ v, e = .returned v) ∧ ∃ xs, S xs ∧ J xs W'

section
variable {F : Fence} {n : Nat} {P : Program}
theorem wpIn_range_N {α : Type} {g : Operand} {ps : Array Tmp} {assign body : Code} {Q : Exit → Act → World → Prop} {a : Act} {w : World}
    (hro : F.round = none) (h1 : 1 ≤ n) {gf : Nat} {lb : Array Value} (hg : a.eval g = .func (.func gf) #[] lb) (hFg : F.fn gf) (eg : ∀ args w, (callFunc gf args).run P w = .ok (.enter gf args) w)
    {encs : α → Array Value} {Kp : World → World → Prop} {S : List α → Prop} {N : Nat} {w0 : World} (hseq : SeqN F (n - 1) P gf lb encs Kp S N w0)
    (hKt : ∀ {A B C : World}, Kp A B → Kp B C → Kp A C) (hKb : ∀ (W : World) (l : Nat) (o o' : Obj), w.heap.size ≤ l → W.heap[l]? = some o → o.isCells = false → o.isWalk = false → Kp W (W.putObj l o')) (hb0 : Below w0.heap.size w0 w) (hps : ∀ x, (encs x).size = ps.size)
    (I : List α → World → Prop) (hI : OwnFrom w.heap.size I) (h0 : I [] w) (Ax : α → Act → World → Prop) (hAx : ∀ x a', OwnFrom w.heap.size (fun (_ : Unit) W => Ax x a' W))
    (hassign : ∀ (l : Nat) (pre : List α) (x : α) (W : World) (K : Act → World → Prop), I pre W → (∀ a' W', KeepsFrom w.heap.size W W' → Kp W W' → I pre W' → Ax x a' W' → K a' W') →
      assign.wpIn (F.inRound l) (n - 1 - 1) P (Exit.then K (fun _ _ _ => False)) { tmps := (ps.zip (encs x)).foldl (fun t (p, v) => t.setIfInBounds p v) a.tmps, defers := [] } W)
    (hbody : ∀ (l : Nat) (pre : List α) (x : α) (a' : Act) (W : World), I pre W → Ax x a' W → pre.length < N →
      body.wpIn (F.inRound l) (n - 1 - 1) P (fun e _ W' => e = .normal ∧ KeepsFrom w.heap.size W W' ∧ Kp W W' ∧ I (pre ++ [x]) W') a' W)
    (hdone : ∀ (D : Nat) (xs : List α) (W : World), w.heap.size ≤ D → S xs → I xs W → W.heap[D]? = some (.deferred (some [])) → Q .normal { a with defers := { target := .collected D, args := #[] } :: a.defers } W) :
    (Code.rangeFunc g ps assign body).wpIn F n P Q a w := by
  refine wpIn_rangeFunc ?_
  intro fn hfn
  rw [hro]
  obtain ⟨rec, hrec⟩ : ∃ rec : LoopState → Option Code → Loop, rec = fun st pe => { state := st, pending := pe, fn, tmps := a.tmps, params := ps, assign, body, defers := w.heap.size } := ⟨_, rfl⟩
  obtain ⟨W1, hW1⟩ : ∃ W1, (w.alloc (.deferred (some []))).alloc (.loop (rec .ready none)) = W1 := ⟨_, rfl⟩
  have hs1 : W1.heap.size = w.heap.size + 2 := by rw [← hW1]; simp
  have hL1 : W1.heap[w.heap.size + 1]? = some (.loop (rec .ready none)) := by
    have := World.alloc_heap_new (w.alloc (.deferred (some []))) (.loop (rec .ready none))
    rw [← hW1]; rwa [World.size_alloc] at this
  have hK1 : W1.heap[w.heap.size]? = some (.deferred (some [])) := by rw [← hW1]; exact blk_alloc (blk_new w _) _
  have hI1 : I [] W1 := by rw [← hW1]; exact hI.alloc _ (hI.alloc _ h0)
  have hb1 : Below w0.heap.size w0 W1 := by
    rw [← hW1]; exact hb0.trans ((((Below.refl _ w).alloc (Nat.le_refl _) _).alloc (by simp) _).mono hb0.size)
  refine ⟨w.heap.size + 1, [{ target := .collected w.heap.size, args := #[] }], W1, { target := .fn (.func gf) lb, args := #[.func (.yield (w.heap.size + 1)) #[] #[]] }, W1, gf,
    #[.func (.yield (w.heap.size + 1)) #[] #[]] ++ lb, W1, ?_, ?_, ?_, ?_, fun _ => h1, ?_⟩
  · rw [← hW1, hrec]; exact run_enterLoop_outer _ _ _ _ _
  · simp only [resolve, hg]
    simp [go_sem]
  · intro f' hf'; simp [Target.leads] at hf'; subst hf'; exact hFg
  · simp [invoke, go_sem, eg]
  · refine (hseq (w.heap.size + 1) (fun pre W => I pre W ∧ W.heap[w.heap.size + 1]? = some (.loop (rec .ready none)) ∧ W.heap[w.heap.size]? = some (.deferred (some []))) W1 hb1
      (fun s A B row hs hg' hr => ⟨hI s A B row hs.1 hg' (fun r e => ⟨by have := (hr r e).1; omega, (hr r e).2⟩), (hg'.block _ (blk_lt hs.2.1) (fun e => by have := (hr _ e.symm).1; omega)).trans hs.2.1,
        (hg'.block _ (blk_lt hs.2.2) (fun e => by have := (hr _ e.symm).1; omega)).trans hs.2.2⟩)
      ?_ ⟨hI1, hL1, hK1⟩).mono ?_
    · rintro pre x W ⟨hi, hl, hk⟩ hlen
      have hy := run_yield (P := P) (args := encs x) hl (by rw [hrec]; exact hps x)
      rw [hrec] at hy
      refine ⟨fn, _, assign, body, hy, roundIn_of_wpIn hfn (hassign _ pre x W _ hi ?_)⟩
      intro a' Wa hkfa hkpa hia hax
      have hl' := hkfa.same _ _ (by omega) hl rfl
      have hk' := hkfa.same _ _ (Nat.le_refl _) hk rfl
      refine ⟨_, run_beginRound hl' (by rw [hrec]), ?_⟩
      have hl2 : (Wa.putObj (w.heap.size + 1) (.loop { rec .ready none with state := .busy })).heap[w.heap.size + 1]? = some (.loop { rec .ready none with state := .busy }) := World.putObj_heap_same (blk_lt hl')
      have hk2 : (Wa.putObj (w.heap.size + 1) (.loop { rec .ready none with state := .busy })).heap[w.heap.size]? = some (.deferred (some [])) := (World.putObj_heap_other (by omega)).trans hk'
      have hw2 : Kp Wa (Wa.putObj (w.heap.size + 1) (.loop { rec .ready none with state := .busy })) := hKb _ _ _ _ (by omega) hl' rfl rfl
      refine wpIn_mono (hbody _ pre x a' _ (hI.putObj _ hia (by omega) hl' rfl) ((hAx x a').putObj (s := ()) _ hax (by omega) hl' rfl) hlen) ?_
      rintro e a3 W3 ⟨rfl, hk3, hkp3, hi3⟩
      have hl3 := hk3.same _ _ (by omega) hl2 rfl
      have hk4 := hk3.same _ _ (Nat.le_refl _) hk2 rfl
      have hr := run_endRound (P := P) none hl3
      refine ⟨_, _, hr, ⟨rfl, ⟨hI.putObj _ hi3 (by omega) hl3 rfl, ?_, (World.putObj_heap_other (by omega)).trans hk4⟩, hKt hkpa (hKt (hKt hw2 hkp3) (hKb _ _ _ _ (by omega) hl3 rfl rfl)), ?_⟩⟩
      · have := World.putObj_heap_same (o := .loop (rec .ready none)) (blk_lt hl3)
        rw [hrec] at this ⊢
        exact this
      · exact (((keepsFrom_wider hkfa (by omega)).trans (keepsFrom_turn (by omega) _)).trans (keepsFrom_wider hk3 (by omega))).trans (keepsFrom_turn (by omega) _)
    · rintro e W2 ⟨⟨v, rfl⟩, xs, hS, hi, hl, hk⟩
      exact ⟨none, _, by have := run_endLoop (P := P) hl (by rw [hrec]; simp); rw [hrec] at this; exact this, hdone _ xs _ (Nat.le_refl _) hS (hI.putObj _ hi (by omega) hl rfl) ((World.putObj_heap_other (by omega)).trans hk)⟩
end

/-- The blocks of K are as they were. -/
structure Held (K : Nat → Prop) (A B : World) : Prop where
  size : A.heap.size ≤ B.heap.size
  block : ∀ k, K k → k < A.heap.size → B.heap[k]? = A.heap[k]?
theorem Held.refl (K : Nat → Prop) (A : World) : Held K A A := ⟨Nat.le_refl _, fun _ _ _ => rfl⟩
theorem Held.trans {K : Nat → Prop} {A B C : World} (h : Held K A B) (k : Held K B C) : Held K A C :=
  ⟨Nat.le_trans h.size k.size, fun i hi hl => (k.block i hi (Nat.lt_of_lt_of_le hl h.size)).trans (h.block i hi hl)⟩
theorem Held.cell {K : Nat → Prop} {A B : World} (h : Held K A B) {p : Addr} {v : Value} (hc : A.cell? p = some v) (hk : K p.block) : B.cell? p = some v :=
  (World.cell?_of_block (w := A) (h.block p.block hk (World.block_lt_of_cell? A p hc))).trans hc
theorem held_b {K : Nat → Prop} {w : World} (hK : ∀ k, K k → k < w.heap.size) (W : World) (l : Nat) (o o' : Obj) (hl : w.heap.size ≤ l) (_ : W.heap[l]? = some o) (_ : o.isCells = false) (_ : o.isWalk = false) : Held K W (W.putObj l o') :=
  ⟨by simp, fun k hk _ => World.putObj_heap_other (by have := hK k hk; omega)⟩
theorem Held.drewN {K : Nat → Prop} {A B : World} (h : Held K A B) (n : Nat) : Held K A (B.drewN n) := ⟨h.size, h.block⟩
theorem wide_fn (f : FuncId) : Fence.wide.fn f := trivial
theorem Held.alloc {K : Nat → Prop} {A B : World} (h : Held K A B) (o : Obj) : Held K A (B.alloc o) :=
  ⟨by rw [World.size_alloc]; have := h.size; omega, fun k hk hl => (Below.heap_alloc B o k (Nat.lt_of_lt_of_le hl h.size)).trans (h.block k hk hl)⟩
theorem Held.of_grown {K : Nat → Prop} {A B : World} {row : Option Nat} (h : A.grownBy B row) (hr : ∀ j, row = some j → ¬ K j) : Held K A B :=
  ⟨h.size, fun k hk hl => h.block k hl (fun e => hr k e.symm hk)⟩
theorem own_drewN {α : Type} {B : Nat} {J : α → World → Prop} (hJ : OwnFrom B J) {s : α} {A : World} (m : Nat) (h : J s A) : J s (A.drewN m) := hJ s A _ none h ⟨rfl, rfl, rfl, Nat.le_refl _, fun _ _ _ => rfl⟩ (fun r e => by cases e)
theorem roundIn_any (l2 m' : Nat) {m : Nat} {P : Program} {l : Nat} {f : FuncId} {tmps : Array Value} {assign body : Code} {w : World} {R : Ending → World → Prop} (h : RoundIn Fence.wide m P l f tmps assign body w R) :
    RoundIn (Fence.wide.inRound l2) m' P l f tmps assign body w R := ⟨h.1, fun c cs _ => h.2 c cs (room_wide _)⟩

end Go.Proofs.Ytlndkeofhcneaaa
