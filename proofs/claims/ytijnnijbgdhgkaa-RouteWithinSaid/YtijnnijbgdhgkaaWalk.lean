/-
  The walks of the functions on routes: what each of them returns.
-/
import Derived.Test.YtijnnijbgdhgkaaRows
import Derived.Test.YtijnnijbgdhgkaaPlain
import Derived.WalkKit
import Derived.ProofKit
import Derived.Deep.RegionHeld3
namespace Go.Proofs.Ytijnnijbgdhgkaa
open Go.RowKit

theorem bel_alloc {w w1 : World} (h : Below w.heap.size w w1) (o : Obj) : Below w.heap.size w (w1.alloc o) := h.alloc h.size o
theorem bel_trans {w w1 w2 : World} (h : Below w.heap.size w w1) (k : Below w1.heap.size w1 w2) : Below w.heap.size w w2 := h.trans (k.mono h.size)
theorem ret_int {k : IntKind} {a b : Int} (h : a = b) : Ending.returned (.int k a) = .returned (.int k b) := by rw [h]

set_option maxHeartbeats 1000000 in
theorem mix_any (x : Int) (w : World) :
   Calls Try.prog 9 #[.int .i64 x] w fun e w' => e = .returned (.int .u64 (tn (mixB x))) ∧ Below w.heap.size w w' := by
  have hmf : ∀ (fn : Fn) (first cap : Array Value) (w : World), (Instr.makeFunc fn first cap).run Try.prog w = .ok (.func fn first cap) w := fun _ _ _ _ => rfl
  have i0 : ∀ w, (Instr.index 36 (.agg #[.int .u64 30, .int .u64 13787848793156543929, .int .u64 27, .int .u64 10723151780598845931, .int .u64 31, .int .u64 1]) (.int .i64 0)).run Try.prog w = .ok (.agg #[.int .u64 30, .int .u64 13787848793156543929]) w := fun _ => by kernel_rfl
  have i1 : ∀ w, (Instr.index 36 (.agg #[.int .u64 30, .int .u64 13787848793156543929, .int .u64 27, .int .u64 10723151780598845931, .int .u64 31, .int .u64 1]) (.int .i64 1)).run Try.prog w = .ok (.agg #[.int .u64 27, .int .u64 10723151780598845931]) w := fun _ => by kernel_rfl
  have i2 : ∀ w, (Instr.index 36 (.agg #[.int .u64 30, .int .u64 13787848793156543929, .int .u64 27, .int .u64 10723151780598845931, .int .u64 31, .int .u64 1]) (.int .i64 2)).run Try.prog w = .ok (.agg #[.int .u64 31, .int .u64 1]) w := fun _ => by kernel_rfl
  have s0 := tn_0 x
  have s1 := tn_1
  have s2 := tn_2
  have s3 := tn_3
  have s4 := tn_w
  go_enter Try.func9, Try.ntmps9
  go_wp2
  refine wp_loop_rounds 4 ?_
  rw [rounds_succ]
  go_wp2
  go_end0
  go_wp2
  rw [rounds_succ]
  go_wp2
  go_end0
  go_wp2
  rw [rounds_succ]
  go_wp2
  go_end0
  go_wp2
  rw [rounds_succ]
  go_wp2
  go_ret
  exact ⟨rfl, by repeat (first | exact Below.refl _ _ | exact Below.drew (Below.refl _ _) | apply bel_alloc)⟩

set_option maxHeartbeats 1000000 in
theorem rmix_any (x : Int) (w : World) :
   Calls Try.prog 10 #[.int .i64 x] w fun e w' => e = .returned (.int .u64 (tn (mixB x))) ∧ Below w.heap.size w w' := by
  have s0 := tn_0 x
  have s1 := tn_1
  have s2 := tn_2
  have s3 := tn_3
  have s4 := tn_w
  go_enter Try.func10, Try.ntmps10
  go_wp2
  go_ret
  exact ⟨rfl, by repeat (first | exact Below.refl _ _ | exact Below.drew (Below.refl _ _) | apply bel_alloc)⟩


set_option maxHeartbeats 1000000 in
theorem shard_no (x n : Int) (h : n < 1) (w : World) :
    Calls Try.prog 11 #[.int .i64 x, .int .i64 n] w fun e w' => e = .returned (.int .i64 0) ∧ Below w.heap.size w w' := by
  go_enter Try.func11, Try.ntmps11
  go_wp2
  go_ret
  exact ⟨rfl, by repeat (first | exact Below.refl _ _ | exact Below.drew (Below.refl _ _) | apply bel_alloc)⟩

set_option maxHeartbeats 1000000 in
theorem shard_yes (x n : Int) (h : 1 ≤ n) (h2 : n ≤ 9223372036854775807) (w : World) :
    Calls Try.prog 11 #[.int .i64 x, .int .i64 n] w fun e w' => e = .returned (.int .i64 (tn (mixB x) % n)) ∧ Below w.heap.size w w' := by
  have e1 := u64_of n h h2
  have e2 := tmod_of (mixB x) n h
  have e3 := wrap_of (mixB x) n h h2
  go_enter Try.func11, Try.ntmps11
  go_wp2_with (go_at_call 9; refine (mix_any _ _).mono ?_; rintro e w' ⟨rfl, hg⟩)
  go_ret
  exact ⟨ret_int e3, hg⟩

set_option maxHeartbeats 1000000 in
theorem rshard_no (x n : Int) (h : n < 1) (w : World) :
    Calls Try.prog 12 #[.int .i64 x, .int .i64 n] w fun e w' => e = .returned (.int .i64 0) ∧ Below w.heap.size w w' := by
  go_enter Try.func12, Try.ntmps12
  go_wp2
  go_ret
  exact ⟨rfl, by repeat (first | exact Below.refl _ _ | exact Below.drew (Below.refl _ _) | apply bel_alloc)⟩

set_option maxHeartbeats 1000000 in
theorem rshard_yes (x n : Int) (h : 1 ≤ n) (h2 : n ≤ 9223372036854775807) (w : World) :
    Calls Try.prog 12 #[.int .i64 x, .int .i64 n] w fun e w' => e = .returned (.int .i64 (tn (mixB x) % n)) ∧ Below w.heap.size w w' := by
  have e1 := u64_of n h h2
  have e2 := tmod_of (mixB x) n h
  have e3 := wrap_of (mixB x) n h h2
  go_enter Try.func12, Try.ntmps12
  go_wp2_with (go_at_call 10; refine (rmix_any _ _).mono ?_; rintro e w' ⟨rfl, hg⟩)
  go_ret
  exact ⟨ret_int e3, hg⟩

/-- Which shard: of a number, and of how many there are. -/
def shv (x n : Int) : Int := if n < 1 then 0 else tn (mixB x) % n

theorem shard_any (x n : Int) (h2 : n ≤ 9223372036854775807) (w : World) :
    Calls Try.prog 11 #[.int .i64 x, .int .i64 n] w fun e w' => e = .returned (.int .i64 (shv x n)) ∧ Below w.heap.size w w' := by
  unfold shv
  by_cases h : n < 1
  · rw [if_pos h]; exact shard_no x n h w
  · rw [if_neg h]; exact shard_yes x n (by omega) h2 w
theorem rshard_any (x n : Int) (h2 : n ≤ 9223372036854775807) (w : World) :
    Calls Try.prog 12 #[.int .i64 x, .int .i64 n] w fun e w' => e = .returned (.int .i64 (shv x n)) ∧ Below w.heap.size w w' := by
  unfold shv
  by_cases h : n < 1
  · rw [if_pos h]; exact rshard_no x n h w
  · rw [if_neg h]; exact rshard_yes x n (by omega) h2 w

set_option maxHeartbeats 1000000 in
theorem owner_any (k : Bool) (a b n : Int) (h2 : n ≤ 9223372036854775807) (w : World) :
    Calls Try.prog 13 #[.bool k, .int .i64 a, .int .i64 b, .int .i64 n] w fun e w' => e = .returned (.int .i64 (shv (if k then b else a) n)) ∧ Below w.heap.size w w' := by
  cases k
  all_goals
    go_enter Try.func13, Try.ntmps13
    go_wp2_with (go_at_call 11; refine (shard_any _ _ h2 _).mono ?_; rintro e w' ⟨rfl, hg⟩)
    go_ret
    exact ⟨rfl, hg⟩
set_option maxHeartbeats 1000000 in
theorem rowner_any (k : Bool) (a b n : Int) (h2 : n ≤ 9223372036854775807) (w : World) :
    Calls Try.prog 14 #[.bool k, .int .i64 a, .int .i64 b, .int .i64 n] w fun e w' => e = .returned (.int .i64 (shv (if k then b else a) n)) ∧ Below w.heap.size w w' := by
  cases k
  all_goals
    go_enter Try.func14, Try.ntmps14
    go_wp2_with (go_at_call 12; refine (rshard_any _ _ h2 _).mono ?_; rintro e w' ⟨rfl, hg⟩)
    go_ret
    exact ⟨rfl, hg⟩

theorem mix_zero : (tn (mixB 0) == 16294208416658607535) = true := by decide
theorem shv_one (x : Int) : shv x 1 = 0 := by
  unfold shv
  rw [if_neg (by omega)]
  omega

set_option maxHeartbeats 1000000 in
theorem awake_any (w : World) :
    Calls Try.prog 7 #[] w fun e w' => e = .returned (.bool true) ∧ Below w.heap.size w w' := by
  have e1 := mix_zero
  have e2 := shv_one 0
  go_enter Try.func7, Try.ntmps7
  go_wp2_with (first | (go_at_call 9; refine (mix_any _ _).mono ?_; rintro e w1 ⟨rfl, h1⟩) | (go_at_call 11; refine (shard_any _ _ (by omega) _).mono ?_; rintro e w2 ⟨rfl, h2⟩))
  go_ret
  exact ⟨rfl, bel_trans h1 h2⟩

set_option maxHeartbeats 1000000 in
theorem undone_27 (z : BitVec 64) (w : World) :
    Calls Try.prog 8 #[.int .u64 (tn z), .int .i64 27] w fun e w' => e = .returned (.int .u64 (tn (unB z 27))) ∧ Below w.heap.size w w' := by
  have s4 := tn_w
  go_enter Try.func8, Try.ntmps8
  go_wp2
  refine wp_loop_rounds 4 ?_
  rw [rounds_succ]
  go_wp2
  rw [rounds_succ]
  go_wp2
  rw [rounds_succ]
  go_wp2
  rw [rounds_succ]
  go_wp2
  go_ret
  exact ⟨ret_int (un_d z 27 134217728 (by decide)), Below.refl _ _⟩

set_option maxHeartbeats 1000000 in
theorem undone_30 (z : BitVec 64) (w : World) :
    Calls Try.prog 8 #[.int .u64 (tn z), .int .i64 30] w fun e w' => e = .returned (.int .u64 (tn (unB z 30))) ∧ Below w.heap.size w w' := by
  have s4 := tn_w
  go_enter Try.func8, Try.ntmps8
  go_wp2
  refine wp_loop_rounds 4 ?_
  rw [rounds_succ]
  go_wp2
  rw [rounds_succ]
  go_wp2
  rw [rounds_succ]
  go_wp2
  rw [rounds_succ]
  go_wp2
  go_ret
  exact ⟨ret_int (un_d z 30 1073741824 (by decide)), Below.refl _ _⟩

set_option maxHeartbeats 1000000 in
theorem undone_31 (z : BitVec 64) (w : World) :
    Calls Try.prog 8 #[.int .u64 (tn z), .int .i64 31] w fun e w' => e = .returned (.int .u64 (tn (unB z 31))) ∧ Below w.heap.size w w' := by
  have s4 := tn_w
  go_enter Try.func8, Try.ntmps8
  go_wp2
  refine wp_loop_rounds 4 ?_
  rw [rounds_succ]
  go_wp2
  rw [rounds_succ]
  go_wp2
  rw [rounds_succ]
  go_wp2
  rw [rounds_succ]
  go_wp2
  go_ret
  exact ⟨ret_int (un_d z 31 2147483648 (by decide)), Below.refl _ _⟩



set_option maxHeartbeats 1000000 in
theorem apart_any (x y : Int) (hx : -9223372036854775808 ≤ x ∧ x ≤ 9223372036854775807) (hy : -9223372036854775808 ≤ y ∧ y ≤ 9223372036854775807) (w : World) :
    Calls Try.prog 3 #[.int .i64 x, .int .i64 y] w fun e w' => e = .returned (.bool true) ∧ Below w.heap.size w w' := by
  have m1 := tn_b1
  have m2 := tn_b2
  have m3 := tn_b3
  have m4 := tn_back x
  have m5 := tn_bi x
  by_cases hxy : x = y
  · subst hxy
    go_enter Try.func3, Try.ntmps3
    go_wp2_with (first | (go_at_call 7; refine (awake_any _).mono ?_; rintro e w1 ⟨rfl, h1⟩) | (go_at_call 9; refine (mix_any _ _).mono ?_; rintro e w2 ⟨rfl, h2⟩))
    refine (undone_31 _ _).mono ?_
    rintro e w3 ⟨rfl, h3⟩
    go_wp2_with fail
    refine (undone_27 _ _).mono ?_
    rintro e w4 ⟨rfl, h4⟩
    go_wp2_with fail
    refine (undone_30 _ _).mono ?_
    rintro e w5 ⟨rfl, h5⟩
    go_wp2_with fail
    refine (mix_any _ _).mono ?_
    rintro e w6 ⟨rfl, h6⟩
    go_wp2_with fail
    refine (mix_any _ _).mono ?_
    rintro e w7 ⟨rfl, h7⟩
    go_wp2_with fail
    go_ret
    exact ⟨rfl, bel_trans (bel_trans (bel_trans (bel_trans (bel_trans (bel_trans h1 h2) h3) h4) h5) h6) h7⟩
  · have q1 := mix_apart hx hy hxy
    have q2 : (x == y) = false := beq_eq_false_iff_ne.2 hxy
    clear hxy
    go_enter Try.func3, Try.ntmps3
    go_wp2_with (first | (go_at_call 7; refine (awake_any _).mono ?_; rintro e w1 ⟨rfl, h1⟩) | (go_at_call 9; refine (mix_any _ _).mono ?_; rintro e w2 ⟨rfl, h2⟩))
    refine (undone_31 _ _).mono ?_
    rintro e w3 ⟨rfl, h3⟩
    go_wp2_with fail
    refine (undone_27 _ _).mono ?_
    rintro e w4 ⟨rfl, h4⟩
    go_wp2_with fail
    refine (undone_30 _ _).mono ?_
    rintro e w5 ⟨rfl, h5⟩
    go_wp2_with fail
    refine (mix_any _ _).mono ?_
    rintro e w6 ⟨rfl, h6⟩
    go_wp2_with fail
    refine (mix_any _ _).mono ?_
    rintro e w7 ⟨rfl, h7⟩
    go_wp2_with fail
    go_ret
    exact ⟨rfl, bel_trans (bel_trans (bel_trans (bel_trans (bel_trans (bel_trans h1 h2) h3) h4) h5) h6) h7⟩


set_option maxHeartbeats 1000000 in
theorem none_any (x n : Int) (hn : -9223372036854775808 ≤ n ∧ n ≤ 9223372036854775807) (w : World) :
    Calls Try.prog 6 #[.int .i64 x, .int .i64 n] w fun e w' => e = .returned (.bool true) ∧ Below w.heap.size w w' := by
  by_cases h : 0 < n
  · go_enter Try.func6, Try.ntmps6
    go_wp2_with (go_at_call 7; refine (awake_any _).mono ?_; rintro e w1 ⟨rfl, h1⟩)
    refine (shard_no _ _ (by omega) _).mono ?_
    rintro e w2 ⟨rfl, h2⟩
    go_wp2_with fail
    refine (owner_any _ _ _ _ (by omega) _).mono ?_
    rintro e w3 ⟨rfl, h3⟩
    have e3 : shv x (-n) = 0 := if_pos (by omega)
    go_wp2_with fail
    go_ret
    exact ⟨rfl, bel_trans (bel_trans h1 h2) h3⟩
  · go_enter Try.func6, Try.ntmps6
    go_wp2_with (go_at_call 7; refine (awake_any _).mono ?_; rintro e w1 ⟨rfl, h1⟩)
    refine (shard_no _ _ (by omega) _).mono ?_
    rintro e w2 ⟨rfl, h2⟩
    go_wp2_with fail
    refine (owner_any _ _ _ _ (by omega) _).mono ?_
    rintro e w3 ⟨rfl, h3⟩
    have e3 : shv x n = 0 := if_pos (by omega)
    go_wp2_with fail
    go_ret
    exact ⟨rfl, bel_trans (bel_trans h1 h2) h3⟩


/-- Three numbers by value lie in a block of their own. -/
def Bx (w : World) (b : Nat) (v0 v1 v2 : Value) : Prop :=
  w.cell? ⟨b, 0, none⟩ = some v0 ∧ w.cell? ⟨b, 1, none⟩ = some v1 ∧ w.cell? ⟨b, 2, none⟩ = some v2 ∧ b < w.heap.size
theorem Bx.new (w : World) (v0 v1 v2 : Value) (t : TypeId) : Bx (w.alloc (.cells #[v0, v1, v2] t)) w.heap.size v0 v1 v2 := by
  refine ⟨?_, ?_, ?_, ?_⟩ <;> simp
theorem Bx.next {w w' : World} {b : Nat} {v0 v1 v2 : Value} (h : Bx w b v0 v1 v2) (k : Below w.heap.size w w') : Bx w' b v0 v1 v2 :=
  ⟨(k.cell h.2.2.2).trans h.1, (k.cell h.2.2.2).trans h.2.1, (k.cell h.2.2.2).trans h.2.2.1, Nat.lt_of_lt_of_le h.2.2.2 k.size⟩

set_option maxHeartbeats 1000000 in
theorem within_any (a b c n : Int) (w : World) :
    Calls Try.prog 5 #[.agg #[.int .i64 a, .int .i64 b, .int .i64 c], .int .i64 n] w fun e w' => e = .returned (.bool true) ∧ Below w.heap.size w w' := by
  have e1 := i64_and30 n
  obtain ⟨k, hk1, hk2, hk3⟩ : ∃ k, 1 + n % 1073741824 = k ∧ 1 ≤ k ∧ k ≤ 1073741824 := ⟨_, rfl, by omega, by omega⟩
  have hs0 : 0 ≤ shv a k ∧ shv a k < k := by unfold shv; rw [if_neg (by omega)]; exact mod_in _ _ hk2
  have e4 := shv_one a
  have B0 := Bx.new w (.int .i64 a) (.int .i64 b) (.int .i64 c) 27
  obtain ⟨hs1, hs2⟩ := hs0
  go_enter Try.func5, Try.ntmps5
  go_wp2_with fail
  refine (awake_any _).mono ?_
  rintro e w1 ⟨rfl, h1⟩
  have B1 := B0.next h1
  obtain ⟨c0, c1, c2, c3⟩ := B1
  go_wp2_with fail
  refine (shard_any _ _ (by omega) _).mono ?_
  rintro e w2 ⟨rfl, h2⟩
  obtain ⟨c0, c1, c2, c3⟩ := Bx.next ⟨c0, c1, c2, c3⟩ h2
  go_wp2_with fail
  refine (shard_any _ _ (by omega) _).mono ?_
  rintro e w3 ⟨rfl, h3⟩
  obtain ⟨c0, c1, c2, c3⟩ := Bx.next ⟨c0, c1, c2, c3⟩ h3
  go_wp2_with fail
  refine (owner_any _ _ _ _ (by omega) _).mono ?_
  rintro e w4 ⟨rfl, h4⟩
  obtain ⟨c0, c1, c2, c3⟩ := Bx.next ⟨c0, c1, c2, c3⟩ h4
  go_wp2_with fail
  refine (owner_any _ _ _ _ (by omega) _).mono ?_
  rintro e w5 ⟨rfl, h5⟩
  obtain ⟨c0, c1, c2, c3⟩ := Bx.next ⟨c0, c1, c2, c3⟩ h5
  go_wp2_with fail
  refine (owner_any _ _ _ _ (by omega) _).mono ?_
  rintro e w6 ⟨rfl, h6⟩
  obtain ⟨c0, c1, c2, c3⟩ := Bx.next ⟨c0, c1, c2, c3⟩ h6
  go_wp2_with fail
  refine (owner_any _ _ _ _ (by omega) _).mono ?_
  rintro e w7 ⟨rfl, h7⟩
  obtain ⟨c0, c1, c2, c3⟩ := Bx.next ⟨c0, c1, c2, c3⟩ h7
  go_wp2_with fail
  go_ret
  exact ⟨rfl, bel_trans (bel_trans (bel_trans (bel_trans (bel_trans (bel_trans (bel_trans (bel_alloc (Below.refl _ _) _) h1) h2) h3) h4) h5) h6) h7⟩


theorem kept5 {w w1 w2 : World} {v0 v1 v2 : Value} (h : Below w1.heap.size w1 w2) (h0 : w1.cell? ⟨w.heap.size, 0, none⟩ = some v0 ∧ w1.cell? ⟨w.heap.size, 1, none⟩ = some v1 ∧ w1.cell? ⟨w.heap.size, 2, none⟩ = some v2 ∧ w.heap.size < w1.heap.size ∧ Below w.heap.size w w1) :
    w2.cell? ⟨w.heap.size, 0, none⟩ = some v0 ∧ w2.cell? ⟨w.heap.size, 1, none⟩ = some v1 ∧ w2.cell? ⟨w.heap.size, 2, none⟩ = some v2 ∧ w.heap.size < w2.heap.size ∧ Below w.heap.size w w2 :=
  ⟨(h.cell h0.2.2.2.1).trans h0.1, (h.cell h0.2.2.2.1).trans h0.2.1, (h.cell h0.2.2.2.1).trans h0.2.2.1, Nat.lt_of_lt_of_le h0.2.2.2.1 h.size, bel_trans h0.2.2.2.2 h⟩

theorem below5 {w w2 : World} {v0 v1 v2 : Value} (h : w2.cell? ⟨w.heap.size, 0, none⟩ = some v0 ∧ w2.cell? ⟨w.heap.size, 1, none⟩ = some v1 ∧ w2.cell? ⟨w.heap.size, 2, none⟩ = some v2 ∧ w.heap.size < w2.heap.size ∧ Below w.heap.size w w2) : Below w.heap.size w w2 := h.2.2.2.2
def ownv (f : Bool) (a b n : Int) : Int := shv (if f then b else a) n
theorem owner2 (k : Bool) (a b n : Int) (h2 : n ≤ 9223372036854775807) (w : World) :
    Calls Try.prog 13 #[.bool k, .int .i64 a, .int .i64 b, .int .i64 n] w fun e w' => e = .returned (.int .i64 (ownv k a b n)) ∧ Below w.heap.size w w' := owner_any k a b n h2 w
theorem rowner2 (k : Bool) (a b n : Int) (h2 : n ≤ 9223372036854775807) (w : World) :
    Calls Try.prog 14 #[.bool k, .int .i64 a, .int .i64 b, .int .i64 n] w fun e w' => e = .returned (.int .i64 (ownv k a b n)) ∧ Below w.heap.size w w' := rowner_any k a b n h2 w

set_option maxHeartbeats 1000000 in
theorem tells_any (f : Bool) (a b c : Int) (hc : c ≤ 9223372036854775807) (w : World) :
    Calls Try.prog 4 #[.bool f, .agg #[.int .i64 a, .int .i64 b, .int .i64 c]] w fun e w' => e = .returned (.bool true) ∧ Below w.heap.size w w' := by
  have e1 := i64_and63 c
  obtain ⟨k, hk1, hk2, hk3⟩ : ∃ k, 1 + c % 64 = k ∧ 1 ≤ k ∧ k ≤ 64 := ⟨_, rfl, by omega, by omega⟩
  have B0 := Bx.new w (.int .i64 a) (.int .i64 b) (.int .i64 c) 27
  go_enter Try.func4, Try.ntmps4
  go_wp2_with fail
  refine (awake_any _).mono ?_
  rintro e w1 ⟨rfl, h1⟩
  have B1 : Bx w1 w.heap.size (.int .i64 a) (.int .i64 b) (.int .i64 c) ∧ Below w.heap.size w w1 := ⟨B0.next h1, bel_trans (bel_alloc (Below.refl _ _) _) h1⟩
  clear h1 B0
  obtain ⟨⟨c0, c1, c2, c3⟩, c4⟩ := B1
  have c5 := And.intro c0 (And.intro c1 (And.intro c2 (And.intro c3 c4)))
  go_wp2_with fail
  go_region_held3 (fun w' => w'.cell? ⟨w.heap.size, 0, none⟩ = some (.int .i64 a) ∧ w'.cell? ⟨w.heap.size, 1, none⟩ = some (.int .i64 b) ∧ w'.cell? ⟨w.heap.size, 2, none⟩ = some (.int .i64 c) ∧ w.heap.size < w'.heap.size ∧ Below w.heap.size w w')
    (first | exact c5 | exact kept5 (by first | assumption | exact Below.drew (Below.refl _ _)) (by assumption))
    (first | (go_at_call 9; refine (mix_any _ _).mono ?_; rintro e w2 ⟨rfl, h2⟩) | (go_at_call 10; refine (rmix_any _ _).mono ?_; rintro e w2 ⟨rfl, h2⟩) | (go_at_call 11; refine (shard_any _ _ (by omega) _).mono ?_; rintro e w2 ⟨rfl, h2⟩) | (go_at_call 12; refine (rshard_any _ _ (by omega) _).mono ?_; rintro e w2 ⟨rfl, h2⟩) | (go_at_call 13; refine (owner2 _ _ _ _ (by omega) _).mono ?_; rintro e w2 ⟨rfl, h2⟩) | (go_at_call 14; refine (rowner2 _ _ _ _ (by omega) _).mono ?_; rintro e w2 ⟨rfl, h2⟩))
  go_wp2_with fail
  go_ret
  exact ⟨rfl, below5 (by assumption)⟩

end Go.Proofs.Ytijnnijbgdhgkaa
