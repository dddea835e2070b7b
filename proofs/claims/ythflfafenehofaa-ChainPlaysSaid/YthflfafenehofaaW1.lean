/-
  The walks of the chain's small functions.
-/
import Derived.Test.YthflfafenehofaaRows
import Derived.Test.YthflfafenehofaaHeap
import Derived.WalkKit
import Derived.ProofKit
namespace Go.Proofs.Ythflfafenehofaa
open Go.RowKit

theorem z59 (w : World) : (zeroValue 59).run Try.prog w = .ok (.pointer none) w := by kernel_rfl
theorem run_look {X : Nat → Prop} {w : World} {c mb : Nat} {M : CS} (h : IsChain X w c mb M) : w.cell? ⟨c, 0, none⟩ = some (.map (some mb)) ∧ w.cell? ⟨c, 1, none⟩ = some (.int .i64 M.length) ∧ w.frozen? ⟨c, 1, none⟩ = false ∧ c < w.heap.size ∧
    ∀ k, (Instr.lookup 56 (.map (some mb)) (.int .i64 k) false).run Try.prog w = .ok (ptrOf (cget M k)) w := by
  obtain ⟨h1, h2, h3, h4, h5, h6, h7, h8⟩ := h
  exact ⟨blk_cell h5 0, blk_cell h5 1, blk_free h5 1, blk_lt h5, fun k => by rw [h6.lookup Try.underlying56 Try.underlying3 (z59 w) k, cfun_get]⟩

set_option maxHeartbeats 1000000 in
theorem at_nil (k : Int) (w : World) :
    Calls Try.prog 23 #[.pointer none, .int .i64 k] w fun e w' => e = .returned (.pointer none) ∧ w = w' := by
  go_enter Try.func23, Try.ntmps23
  go_wp2
  go_ret
  exact ⟨rfl, rfl⟩

set_option maxHeartbeats 1000000 in
theorem at_ok {X : Nat → Prop} {w : World} {c mb : Nat} {M : CS} (h : IsChain X w c mb M) (k : Int) :
    Calls Try.prog 23 #[.pointer (some ⟨c, 0, none⟩), .int .i64 k] w fun e w' => e = .returned (ptrOf (cget M k)) ∧ w = w' := by
  obtain ⟨h0, h1, h2, h3, h4⟩ := run_look h
  clear h
  go_enter Try.func23, Try.ntmps23
  go_wp2
  go_ret
  exact ⟨rfl, rfl⟩


set_option maxHeartbeats 1000000 in
theorem keep_nil (k : Int) (w : World) :
    Calls Try.prog 22 #[.pointer none, .int .i64 k] w fun e w' => e = .returned (.bool false) ∧ w = w' := by
  go_enter Try.func22, Try.ntmps22
  go_wp2_with (go_at_call 23; refine (at_nil _ _).mono ?_; rintro e w1 ⟨rfl, rfl⟩)
  go_ret
  exact ⟨rfl, rfl⟩
set_option maxHeartbeats 1000000 in
theorem keep_no {X : Nat → Prop} {w : World} {c mb : Nat} {M : CS} (h : IsChain X w c mb M) {k : Int} (hk : cget M k = none) :
    Calls Try.prog 22 #[.pointer (some ⟨c, 0, none⟩), .int .i64 k] w fun e w' => e = .returned (.bool false) ∧ w = w' := by
  have e1 : ptrOf (cget M k) = .pointer none := by rw [hk]; rfl
  clear hk
  go_enter Try.func22, Try.ntmps22
  go_wp2_with (go_at_call 23; refine (at_ok h _).mono ?_; rintro e w1 ⟨rfl, rfl⟩)
  go_ret
  exact ⟨rfl, rfl⟩
set_option maxHeartbeats 1000000 in
theorem keep_yes {X : Nat → Prop} {w : World} {c mb : Nat} {M : CS} (h : IsChain X w c mb M) {k : Int} {n : CN} (hk : cget M k = some n) (hb : 0 ≤ n.count ∧ n.count ≤ 4611686018427387904) :
    Calls Try.prog 22 #[.pointer (some ⟨c, 0, none⟩), .int .i64 k] w fun e w' => e = .returned (.bool true) ∧ IsChain X w' c mb (M.set k.toNat (some { n with count := n.count + 1 })) ∧ Keep X w w' := by
  obtain ⟨hb1, hb2⟩ := hb
  have e1 : ptrOf (cget M k) = .pointer (some ⟨n.blk, 0, none⟩) := by rw [hk]; rfl
  have hc := h.recount hk (n.count + 1)
  obtain ⟨c0, c1, c2, c3, c4, c5, c6, c7, c8⟩ := h.cells hk
  clear hk
  go_enter Try.func22, Try.ntmps22
  go_wp2_with (go_at_call 23; refine (at_ok h _).mono ?_; rintro e w1 ⟨rfl, rfl⟩)
  go_ret
  exact ⟨rfl, hc, (Keep.refl _ _).setCell (.inl c8) _⟩

set_option maxHeartbeats 1000000 in
theorem count_nil (k : Int) (w : World) :
    Calls Try.prog 18 #[.pointer none, .int .i64 k] w fun e w' => e = .returned (.int .i64 0) ∧ w = w' := by
  go_enter Try.func18, Try.ntmps18
  go_wp2_with (go_at_call 23; refine (at_nil _ _).mono ?_; rintro e w1 ⟨rfl, rfl⟩)
  go_ret
  exact ⟨rfl, rfl⟩
def cntS (M : CS) (k : Int) : Int := match cget M k with | none => 0 | some n => n.count
set_option maxHeartbeats 1000000 in
theorem count_any {X : Nat → Prop} {w : World} {c mb : Nat} {M : CS} (h : IsChain X w c mb M) (k : Int) :
    Calls Try.prog 18 #[.pointer (some ⟨c, 0, none⟩), .int .i64 k] w fun e w' => e = .returned (.int .i64 (cntS M k)) ∧ w = w' := by
  unfold cntS
  cases hk : cget M k with
  | none =>
    have e1 : ptrOf (cget M k) = .pointer none := by rw [hk]; rfl
    clear hk
    go_enter Try.func18, Try.ntmps18
    go_wp2_with (go_at_call 23; refine (at_ok h _).mono ?_; rintro e w1 ⟨rfl, rfl⟩)
    go_ret
    exact ⟨rfl, rfl⟩
  | some n =>
    have e1 : ptrOf (cget M k) = .pointer (some ⟨n.blk, 0, none⟩) := by rw [hk]; rfl
    obtain ⟨c0, c1, c2, c3, c4, c5, c6, c7, c8⟩ := h.cells hk
    clear hk
    go_enter Try.func18, Try.ntmps18
    go_wp2_with (go_at_call 23; refine (at_ok h _).mono ?_; rintro e w1 ⟨rfl, rfl⟩)
    go_ret
    exact ⟨rfl, rfl⟩

set_option maxHeartbeats 1000000 in
theorem live_nil (w : World) :
    Calls Try.prog 14 #[.pointer none] w fun e w' => e = .returned (.int .i64 0) ∧ w = w' := by
  go_enter Try.func14, Try.ntmps14
  go_wp2
  go_ret
  exact ⟨rfl, rfl⟩
theorem run_len {X : Nat → Prop} {w : World} {c mb : Nat} {M : CS} (h : IsChain X w c mb M) : w.cell? ⟨c, 0, none⟩ = some (.map (some mb)) ∧ c < w.heap.size ∧
    ∀ ty, (Builtin.len_ #[56] ty #[.map (some mb)]).run Try.prog w = .ok (.int .i64 (cnt M : Nat)) w := by
  obtain ⟨h1, h2, h3, h4, h5, ⟨es, clk, g1, g2, g3, g4, g5⟩, h7, h8⟩ := h
  refine ⟨blk_cell h5 0, blk_lt h5, fun ty => ?_⟩
  simp [Builtin.len_, run_underlying Try.underlying56, MapKept.run_getObj_map g1, Result.andThen, goInt, g5]
set_option maxHeartbeats 1000000 in
theorem live_any {X : Nat → Prop} {w : World} {c mb : Nat} {M : CS} (h : IsChain X w c mb M) :
    Calls Try.prog 14 #[.pointer (some ⟨c, 0, none⟩)] w fun e w' => e = .returned (.int .i64 (cnt M : Nat)) ∧ w = w' := by
  obtain ⟨h0, h1, h2⟩ := run_len h
  clear h
  go_enter Try.func14, Try.ntmps14
  go_wp2
  go_ret
  exact ⟨rfl, rfl⟩

def XNew (w : World) (k : Nat) : Prop := k = w.heap.size ∨ k = w.heap.size + 1
theorem chain_new (w : World) : IsChain (XNew w) ((w.alloc (.map #[] 0)).alloc (.cells #[.map (some w.heap.size), .int .i64 0] 58)) (w.heap.size + 1) w.heap.size [] := by
  have e : (w.alloc (.map #[] 0)).heap.size = w.heap.size + 1 := by simp
  have h1 := IMap.new w
  have h2 := blk_new (w.alloc (.map #[] 0)) (.cells #[.map (some w.heap.size), .int .i64 0] 58)
  rw [e] at h2
  refine ⟨.inr rfl, .inl rfl, by omega, ?_, h2, ?_, ?_, ?_⟩
  · intro k hk; rcases hk with rfl | rfl
    · simp; omega
    · simp
  · have hf : cfun [] = fun _ => none := by funext k; simp [cfun, cget]
    rw [hf]
    exact h1.same (Below.heap_alloc _ _ _ (by simp))
  · intro k n hk; unfold cget at hk; split at hk <;> simp at hk
  · intro k n k' n' hk; unfold cget at hk; split at hk <;> simp at hk
set_option maxHeartbeats 1000000 in
theorem new_any (w : World) :
    Calls Try.prog 9 #[] w fun e w' => e = .returned (.pointer (some ⟨w.heap.size + 1, 0, none⟩)) ∧ IsChain (XNew w) w' (w.heap.size + 1) w.heap.size [] ∧ Below w.heap.size w w' := by
  have hmm := @run_makeMap Try.prog
  have hc := chain_new w
  go_enter Try.func9, Try.ntmps9
  go_wp2
  go_ret
  exact ⟨rfl, hc, ((Below.refl _ _).alloc (Nat.le_refl _) _).alloc (by simp) _⟩

end Go.Proofs.Ythflfafenehofaa
