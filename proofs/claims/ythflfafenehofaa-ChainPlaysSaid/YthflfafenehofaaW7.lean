/-
  Sets for any chain; what a row of refs holds; the chapter's examples.
-/
import Derived.Test.YthflfafenehofaaW6
import Derived.Test.YthflfafenehofaaW3
namespace Go.Proofs.Ythflfafenehofaa
open Go.RowKit Go.Shelf

attribute [local go_sem] Oper.semAt_some

theorem sets_yes {X : Nat → Prop} {w : World} {c mb : Nat} {M : CS} (h : IsChain X w c mb M) (k : Int) (n0 : CN) (xs : List CN) (hk : cget M k = some n0) (hP : Path M k xs)
    (hcell : ∀ n ∈ xs, 0 ≤ n.cell ∧ n.cell ≤ n0.cell) (m : Nat) (hm : n0.cell + 1 = (m : Int)) (hm2 : m ≤ 1000) (hlen : xs.length ≤ 1000000) :
    Calls Try.prog 13 #[.pointer (some ⟨c, 0, none⟩), .int .i64 k] w fun e w' => ∃ v, e = .returned v ∧ IsRows (fun b => w.heap.size ≤ b) w' v (setsS m xs) ∧ Below w.heap.size w w' :=
  callsIn_wide.1 (sets_some h k n0 xs hk hP hcell m hm hm2 hlen)

theorem sets_no {X : Nat → Prop} {w : World} {c mb : Nat} {M : CS} (h : IsChain X w c mb M) (k : Int) (hk : cget M k = none) :
    Calls Try.prog 13 #[.pointer (some ⟨c, 0, none⟩), .int .i64 k] w fun e w' => e = .returned (.slice none 0 0) ∧ w = w' := by
  have e1 : ptrOf (cget M k) = .pointer none := by rw [hk]; rfl
  clear hk
  go_enter Try.func13, Try.ntmps13
  go_wp2_with (go_at_call 23; refine (at_ok h _).mono ?_; rintro e w1 ⟨rfl, rfl⟩)
  go_ret
  exact ⟨rfl, rfl⟩
theorem sets_nil (k : Int) (w : World) :
    Calls Try.prog 13 #[.pointer none, .int .i64 k] w fun e w' => e = .returned (.slice none 0 0) ∧ w = w' := by
  go_enter Try.func13, Try.ntmps13
  go_wp2_with (go_at_call 23; refine (at_nil _ _).mono ?_; rintro e w1 ⟨rfl, rfl⟩)
  go_ret
  exact ⟨rfl, rfl⟩

/-- What a row of refs of one's own holds. -/
theorem own_refs {w : World} {base : Nat} {v : Value} {l : List (Int × Int)} (h : w.ownsRow base 31 2 v l.length (refv l)) :
    (v = .slice none 0 0 ∧ l = []) ∨ ∃ g cap, v = .slice (some ⟨g, 0, none⟩) l.length cap ∧ base ≤ g ∧ g < w.heap.size ∧ ∀ j r, l[j]? = some r → w.cell? ⟨g, 2 * j, none⟩ = some (.int .i64 r.1) ∧ w.cell? ⟨g, 2 * j + 1, none⟩ = some (.int .i64 r.2) := by
  obtain ⟨hl, ⟨h1, h2⟩ | ⟨g, cap, cur, rfl, hg, hb, hc, hm, hs, ht⟩⟩ := h
  · exact .inl ⟨h1, List.eq_nil_of_length_eq_zero h2⟩
  · refine .inr ⟨g, cap, rfl, hg, blk_lt hb, fun j r hj => ?_⟩
    have key : ∀ (l : List (Int × Int)) (j : Nat) (r : Int × Int), l[j]? = some r → (refv l)[2 * j]? = some (.int .i64 r.1) ∧ (refv l)[2 * j + 1]? = some (.int .i64 r.2) := by
      intro l
      induction l with
      | nil => intro j r hj; simp at hj
      | cons a l ih =>
        intro j r hj
        have e : refv (a :: l) = .int .i64 a.1 :: .int .i64 a.2 :: refv l := by simp [refv]
        rw [e]
        cases j with
        | zero => simp at hj; subst hj; simp
        | succ j =>
          have := ih j r (by simpa using hj)
          rw [show 2 * (j + 1) = 2 * j + 1 + 1 from by omega]
          simpa using this
    obtain ⟨k1, k2⟩ := key l j r hj
    rw [← ht] at k1 k2
    rw [blk_cell hb, blk_cell hb]
    rw [List.getElem?_take] at k1 k2
    split at k1
    · split at k2
      · exact ⟨by simpa using k1, by simpa using k2⟩
      · cases k2
    · cases k1

theorem Drops.uniq {M : CS} {k : Int} {o1 o2 : List (Int × Int)} {M1 M2 : CS} (h : Drops M k o1 M1) (h2 : Drops M k o2 M2) : o1 = o2 ∧ M1 = M2 := by
  induction h generalizing o2 M2 with
  | stop h =>
    cases h2 with
    | stop _ => exact ⟨rfl, rfl⟩
    | held h' _ => rw [h] at h'; cases h'
    | gone h' _ _ => rw [h] at h'; cases h'
  | held h hc =>
    cases h2 with
    | stop h' => rw [h] at h'; cases h'
    | held h' hc' => rw [h] at h'; cases h'; exact ⟨rfl, rfl⟩
    | gone h' hc' _ => rw [h] at h'; cases h'; omega
  | gone h hc hr ih =>
    cases h2 with
    | stop h' => rw [h] at h'; cases h'
    | held h' hc' => rw [h] at h'; cases h'; omega
    | gone h' hc' hr' =>
      rw [h] at h'; cases h'
      obtain ⟨rfl, rfl⟩ := ih hr'
      exact ⟨rfl, rfl⟩

theorem Keep.of_below' {w w' : World} {n : Nat} (h : Below n w w') {X : Nat → Prop} (hX : ∀ k, n ≤ k → X k) : Keep X w w' :=
  ⟨h.os, h.tape, h.output, h.size, fun k _ hn => h.block k (by rcases Nat.lt_or_ge k n with h | h; exact h; exact (hn (hX k h)).elim)⟩

end Go.Proofs.Ythflfafenehofaa
