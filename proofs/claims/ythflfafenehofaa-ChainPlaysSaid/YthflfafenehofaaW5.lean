/-
  The iterators of the chain: nodes, from one back to the first.
-/
import Derived.Test.YthflfafenehofaaW4
import Derived.Test.YthflfafenehofaaRound
import Derived.RangeFuncNested
import Derived.RangeFuncBound
import Derived.RangeFuncCalls
import Derived.RangeFuncLeaves
import Derived.Shelf.Abstract
import Derived.OwnWalkIn
import Derived.TacticsInMore
import Derived.LoopNIn
import Derived.LoopIn
import Derived.Sort.QuietIn
namespace Go.Proofs.Ythflfafenehofaa
open Go.RowKit Go.Shelf

attribute [local go_sem] Oper.semAt_some

/-- The nodes from one back to the first. -/
inductive Path : CS → Int → List CN → Prop
  | nil {M : CS} {k : Int} (h : cget M k = none) : Path M k []
  | cons {M : CS} {k : Int} {n : CN} {xs : List CN} (h : cget M k = some n) (hr : Path M n.prev xs) : Path M k (n :: xs)

theorem Path.mem {M : CS} {k : Int} {xs : List CN} (h : Path M k xs) : ∀ n ∈ xs, ∃ q, cget M q = some n := by
  induction h with
  | nil => intro n hn; cases hn
  | @cons k n xs h hr ih =>
    intro m hm
    rcases List.mem_cons.1 hm with rfl | hm
    · exact ⟨_, h⟩
    · exact ih m hm

/-- How many nodes are still to come: for the loop. -/
def PathAt (M : CS) (v : Value) (xs : List CN) : Prop := ∃ k, v = ptrOf (cget M k) ∧ Path M k xs

theorem path_uniq {M : CS} (hb : ∀ k n k' n', cget M k = some n → cget M k' = some n' → n.blk = n'.blk → k = k') : ∀ {xs ys : List CN} {v : Value}, PathAt M v xs → PathAt M v ys → xs = ys := by
  intro xs
  induction xs with
  | nil =>
    rintro ys v ⟨k, hk, hp⟩ ⟨k', hk', hp'⟩
    cases hp with
    | nil h =>
      cases hp' with
      | nil => rfl
      | cons h' => rw [hk, h, h'] at hk'; simp [ptrOf] at hk'
  | cons n xs ih =>
    rintro ys v ⟨k, hk, hp⟩ ⟨k', hk', hp'⟩
    cases hp with
    | cons h hr =>
      cases hp' with
      | nil h' => rw [hk, h, h'] at hk'; simp [ptrOf] at hk'
      | @cons _ n' ys h' hr' =>
        rw [hk, h, h'] at hk'
        have e : n.blk = n'.blk := by simpa [ptrOf] using hk'
        have e1 := hb k n k' n' h h' e
        subst e1
        rw [h] at h'
        injection h' with h'
        subst h'
        rw [ih ⟨_, rfl, hr⟩ ⟨_, rfl, hr'⟩]

open Classical in
noncomputable def pleft (M : CS) (v : Value) : Nat := if h : ∃ xs, PathAt M v xs then (Classical.choose h).length else 0
theorem pleft_eq {M : CS} (hb : ∀ k n k' n', cget M k = some n → cget M k' = some n' → n.blk = n'.blk → k = k') {xs : List CN} {v : Value} (h : PathAt M v xs) : pleft M v = xs.length := by
  have hex : ∃ xs, PathAt M v xs := ⟨xs, h⟩
  unfold pleft
  rw [dif_pos hex]
  rw [path_uniq hb (Classical.choose_spec hex) h]

theorem IsChain.inj {X : Nat → Prop} {w : World} {c mb : Nat} {M : CS} (h : IsChain X w c mb M) : ∀ k n k' n', cget M k = some n → cget M k' = some n' → n.blk = n'.blk → k = k' := by
  obtain ⟨_, _, _, _, _, _, _, h8⟩ := h; exact h8
/-- The blocks of K are as they were. -/
structure Held (K : Nat → Prop) (A B : World) : Prop where
  size : A.heap.size ≤ B.heap.size
  block : ∀ k, K k → k < A.heap.size → B.heap[k]? = A.heap[k]?
theorem Held.refl (K : Nat → Prop) (A : World) : Held K A A := ⟨Nat.le_refl _, fun _ _ _ => rfl⟩
theorem Held.trans {K : Nat → Prop} {A B C : World} (h : Held K A B) (k : Held K B C) : Held K A C :=
  ⟨Nat.le_trans h.size k.size, fun i hi hl => (k.block i hi (Nat.lt_of_lt_of_le hl h.size)).trans (h.block i hi hl)⟩
theorem Held.cell {K : Nat → Prop} {A B : World} (h : Held K A B) {p : Addr} {v : Value} (hc : A.cell? p = some v) (hk : K p.block) : B.cell? p = some v :=
  (World.cell?_of_block (w := A) (h.block p.block hk (World.block_lt_of_cell? A p hc))).trans hc
theorem held_b {K : Nat → Prop} {w : World} (hK : ∀ k, K k → k < w.heap.size) (W : World) (l : Nat) (o o' : Obj) (hl : w.heap.size ≤ l) (_ : W.heap[l]? = some o) (_ : o.isCells = false) (_ : o.isWalk = false) : Held K W (W.putObj l o') :=
  ⟨by simp, fun k hk _ => World.putObj_heap_other (by have := hK k hk; omega)⟩
theorem IsChain.held {X K : Nat → Prop} {w w' : World} {c mb : Nat} {M : CS} (h : IsChain X w c mb M) (hX : ∀ i, X i → K i) (k : Held K w w') : IsChain X w' c mb M :=
  h.same k.size fun i hi => k.block i (hX i hi) (by obtain ⟨_, _, _, h4, _⟩ := h; exact h4 i hi)
theorem Held.drewN {K : Nat → Prop} {A B : World} (h : Held K A B) (n : Nat) : Held K A (B.drewN n) := ⟨h.size, h.block⟩
theorem IsChain.belowN {X : Nat → Prop} {w w' : World} {c mb : Nat} {M : CS} {n₀ : Nat} (h : IsChain X w c mb M) (hX : ∀ i, X i → i < n₀) (k : Below n₀ w w') : IsChain X w' c mb M :=
  h.same k.size fun i hi => k.block i (hX i hi)

theorem at_in (n : Nat) {X : Nat → Prop} {w : World} {c mb : Nat} {M : CS} (h : IsChain X w c mb M) (k : Int) :
    CallsIn Fence.wide n Try.prog 23 #[.pointer (some ⟨c, 0, none⟩), .int .i64 k] w fun e w' => e = .returned (ptrOf (cget M k)) ∧ w = w' := by
  exact callsIn_wide.2 (at_ok h k)

theorem IsChain.drewN {X : Nat → Prop} {w : World} {c mb : Nat} {M : CS} (h : IsChain X w c mb M) (n : Nat) : IsChain X (w.drewN n) c mb M := h
theorem at_in' (n : Nat) {X : Nat → Prop} {w : World} {c mb : Nat} {M : CS} (h : IsChain X w c mb M) (k : Int) :
    CallsIn Fence.wide n Try.prog 23 #[.pointer (some ⟨c, 0, none⟩), .int .i64 k] w fun e w' => e = .returned (ptrOf (cget M k)) ∧ w' = w :=
  (at_in n h k).mono fun _ _ h => ⟨h.1, h.2.symm⟩
theorem wide_fn (f : FuncId) : Fence.wide.fn f := trivial

set_option maxHeartbeats 2000000 in
theorem back1_in (n : Nat) (hn : 2 ≤ n) (l Bc Bk : Nat) {X K : Nat → Prop} {c mb : Nat} {M : CS} (k : Int) (xs : List CN) (hX : ∀ i, X i → K i) (hP : Path M k xs) (J Jx : List {x : CN // x ∈ xs} → World → Prop) (hAb : ∀ s A m, J s A → J s (A.drewN m))
    (hY : ∀ pre x W, J pre W → pre.length < xs.length → YieldAt Fence.wide (n - 1) Try.prog l #[.pointer (some ⟨x.1.blk, 0, none⟩)] W fun e W' =>
      (e = .returned (.bool true) ∧ J (pre ++ [x]) W' ∧ Held K W W') ∨ (e = .returned (.bool false) ∧ Jx (pre ++ [x]) W'))
    (W : World) (hBc : K Bc) (hc : W.cell? ⟨Bc, 0, none⟩ = some (.pointer (some ⟨c, 0, none⟩))) (hk : W.cell? ⟨Bk, 0, none⟩ = some (.int .i64 k)) (h : IsChain X W c mb M) (h0 : J [] W) :
    CallsIn Fence.wide n Try.prog 33 #[.func (.yield l) #[] #[], .pointer (some ⟨Bc, 0, none⟩), .pointer (some ⟨Bk, 0, none⟩)] W fun e W' => (∃ v, e = .returned v) ∧
      ((∃ ys, ys = xs.attach ∧ J ys W') ∨ (∃ pre, pre <+: xs.attach ∧ Jx pre W')) := by
  have hlc := World.block_lt_of_cell? W _ hc
  have hlk := World.block_lt_of_cell? W _ hk
  have h23 := wide_fn 23
  have h33 := wide_fn 33
  have h1 : 1 ≤ n := by omega
  have h2 : 1 ≤ n - 1 := by omega
  have hinj := h.inj
  refine callsIn_of_wp Try.func33 rfl h33 ?_ rfl
  simp only [Try.ntmps33, List.size_toArray, List.length_cons, List.length_nil, Nat.reduceAdd, Nat.reduceSub, Array.replicate_succ, Array.replicate_zero, List.push_toArray, List.append_toArray, List.nil_append, List.cons_append]
  gi_wp2_with (gi_at_call 23; refine (at_in _ h k).mono ?_; rintro e w1 ⟨rfl, rfl⟩)
  gi_loopw [4] (fun p wr => ∃ (pre rest : List {x : CN // x ∈ xs}), xs.attach = pre ++ rest ∧ PathAt M p (rest.map (·.1)) ∧ J pre wr ∧ Held K W wr)
    (fun p _ => pleft M p)
  case atStart => exact ⟨[], xs.attach, rfl, ⟨k, rfl, by simpa using hP⟩, h0, Held.refl _ _⟩
  case round =>
    obtain ⟨pre, rest, hx, hpa, hJ, hB⟩ := hrel
    cases rest with
    | nil =>
      obtain ⟨q, hq, hp⟩ := hpa
      cases hp with
      | nil hn0 =>
        rw [hn0] at hq
        simp only [ptrOf] at hq
        subst hq
        gi_wp2
        refine ⟨fun _ h => (by cases h), ?_⟩
        gi_wp2
        go_end0
        exact ⟨⟨_, rfl⟩, .inl ⟨pre, by simpa using hx.symm, hJ⟩⟩
    | cons x rest =>
      obtain ⟨q, hq, hp⟩ := hpa
      have hall : PathAt M u4 ((x :: rest).map (·.1)) := ⟨q, hq, hp⟩
      cases hp with
      | cons hn0 hr =>
        rw [hn0] at hq
        simp only [ptrOf] at hq
        subst hq
        have hch : IsChain X wr c mb M := h.held hX hB
        have hlen : pre.length < xs.length := by
          have := congrArg List.length hx
          simp at this
          omega
        obtain ⟨fn, tmps, assign, body, hy, hR⟩ := hY pre x wr hJ hlen
        have HA := Lib.hid (And.intro hall hx)
        clear hall hx hlen
        gi_wp2
        refine hR.mono ?_
        rintro e W3 (⟨rfl, hJ3, hk3⟩ | ⟨rfl, hJx3⟩)
        · have hch3 : IsChain X W3 c mb M := hch.held hX hk3
          obtain ⟨c0, _, _, _, _, _, _, c7, _⟩ := hch3.cells hn0
          have hB3 := hB.trans hk3
          have d1 : W3.cell? ⟨Bc, 0, none⟩ = some (.pointer (some ⟨c, 0, none⟩)) := hB3.cell hc hBc
          have d2 : Bc < W3.heap.size := Nat.lt_of_lt_of_le hlc hB3.size
          have HN := Lib.hid hn0
          clear hn0
          gi_wp2
          gi_quiet ((gi_at_call 23; exact CallsIn.quiet_of_same (at_in' _ (hch3.drewN _) _)))
          gi_wp2
          refine ⟨⟨pre ++ [x], rest, by simp [HA.out.2], ⟨_, rfl, hr⟩, hAb _ _ _ hJ3, ?_⟩, ?_⟩
          · exact hB3.drewN _
          · rw [pleft_eq hinj HA.out.1, pleft_eq hinj ⟨_, rfl, hr⟩]
            simp
        · gi_wp2
          go_end0
          exact ⟨⟨_, rfl⟩, .inr ⟨pre ++ [x], ⟨rest, by simp [HA.out.2]⟩, hJx3⟩⟩

end Go.Proofs.Ythflfafenehofaa
