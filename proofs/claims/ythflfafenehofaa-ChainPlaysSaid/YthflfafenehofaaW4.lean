/-
  Rows of numbers, and rows of rows, as they lie in memory; the walk of Compare where both are the same.
-/
import Derived.Test.YthflfafenehofaaW3
import Derived.Deep.QuietTactic
import Derived.BigQuiet
namespace Go.Proofs.Ythflfafenehofaa
open Go.RowKit

/-- A value is a row of numbers, in blocks of R. -/
def IsInts (R : Nat → Prop) (w : World) (v : Value) (xs : List Int) : Prop :=
  ∃ p cap, v = .slice p xs.length cap ∧ ∀ i x, xs[i]? = some x → ∃ b off, p = some ⟨b, off, none⟩ ∧ R b ∧ b < w.heap.size ∧ w.cell? ⟨b, off + i, none⟩ = some (.int .i64 x)
/-- A value is a row of rows of numbers. -/
def IsRows (R : Nat → Prop) (w : World) (v : Value) (xss : List (List Int)) : Prop :=
  ∃ p cap, v = .slice p xss.length cap ∧ ∀ i xs, xss[i]? = some xs → ∃ b off vi, p = some ⟨b, off, none⟩ ∧ R b ∧ b < w.heap.size ∧ w.cell? ⟨b, off + i, none⟩ = some vi ∧ IsInts R w vi xs

theorem IsInts.keep {R X : Nat → Prop} {w w' : World} {v : Value} {xs : List Int} (h : IsInts R w v xs) (k : Keep X w w') (hd : ∀ b, R b → ¬ X b) : IsInts R w' v xs := by
  obtain ⟨p, cap, hv, hc⟩ := h
  refine ⟨p, cap, hv, fun i x hx => ?_⟩
  obtain ⟨b, off, h1, h2, h3, h4⟩ := hc i x hx
  exact ⟨b, off, h1, h2, Nat.lt_of_lt_of_le h3 k.size, (k.cell h3 (hd b h2)).trans h4⟩
theorem IsRows.keep {R X : Nat → Prop} {w w' : World} {v : Value} {xss : List (List Int)} (h : IsRows R w v xss) (k : Keep X w w') (hd : ∀ b, R b → ¬ X b) : IsRows R w' v xss := by
  obtain ⟨p, cap, hv, hc⟩ := h
  refine ⟨p, cap, hv, fun i xs hx => ?_⟩
  obtain ⟨b, off, vi, h1, h2, h3, h4, h5⟩ := hc i xs hx
  exact ⟨b, off, vi, h1, h2, Nat.lt_of_lt_of_le h3 k.size, (k.cell h3 (hd b h2)).trans h4, h5.keep k hd⟩
theorem IsInts.below {R : Nat → Prop} {w w' : World} {v : Value} {xs : List Int} (h : IsInts R w v xs) (k : Below w.heap.size w w') : IsInts R w' v xs :=
  h.keep (Keep.of_below k (fun _ => False)) fun _ _ f => f
theorem IsRows.below {R : Nat → Prop} {w w' : World} {v : Value} {xss : List (List Int)} (h : IsRows R w v xss) (k : Below w.heap.size w w') : IsRows R w' v xss :=
  h.keep (Keep.of_below k (fun _ => False)) fun _ _ f => f
theorem IsInts.mono {R R' : Nat → Prop} {w : World} {v : Value} {xs : List Int} (h : IsInts R w v xs) (hR : ∀ b, R b → R' b) : IsInts R' w v xs := by
  obtain ⟨p, cap, hv, hc⟩ := h
  refine ⟨p, cap, hv, fun i x hx => ?_⟩
  obtain ⟨b, off, h1, h2, h3, h4⟩ := hc i x hx
  exact ⟨b, off, h1, hR b h2, h3, h4⟩
theorem IsRows.mono {R R' : Nat → Prop} {w : World} {v : Value} {xss : List (List Int)} (h : IsRows R w v xss) (hR : ∀ b, R b → R' b) : IsRows R' w v xss := by
  obtain ⟨p, cap, hv, hc⟩ := h
  refine ⟨p, cap, hv, fun i xs hx => ?_⟩
  obtain ⟨b, off, vi, h1, h2, h3, h4, h5⟩ := hc i xs hx
  exact ⟨b, off, vi, h1, hR b h2, h3, h4, h5.mono hR⟩

theorem below_drewN {w wr : World} (h : Below w.heap.size w wr) (n : Nat) : Below w.heap.size w (wr.drewN n) := ⟨h.os, h.tape, h.output, h.size, h.block⟩

set_option maxHeartbeats 2000000 in
theorem row_eq {R R' : Nat → Prop} {w : World} {v v' : Value} {xs : List Int} (h : IsInts R w v xs) (h' : IsInts R' w v' xs) (hl : xs.length ≤ 1000000) :
    Calls Try.prog 24 #[v, v'] w fun e w' => e = .returned (.int .i64 0) ∧ ∃ n, w' = w.drewN n := by
  obtain ⟨p, cap, rfl, hc⟩ := h
  obtain ⟨p', cap', rfl, hc'⟩ := h'
  go_enter Try.func24, Try.ntmps24
  go_wp2
  go_loopw [5] (fun vi wr => ∃ k nq : Nat, k ≤ xs.length ∧ vi = .int .i64 k ∧ wr = w.drewN nq) (fun vi _ => xs.length - (intOf vi).toNat)
  case atStart => exact ⟨0, 0, Nat.zero_le _, rfl, rfl⟩
  case round =>
    obtain ⟨k, nq0, hk, rfl, rfl⟩ := hrel
    by_cases hlt : k < xs.length
    · have hx : xs[k]? = some xs[k] := List.getElem?_eq_getElem hlt
      obtain ⟨b, off, rfl, _, hbl, hcell⟩ := hc k _ hx
      obtain ⟨b', off', rfl, _, hbl', hcell'⟩ := hc' k _ hx
      clear hc hc' hx
      go_wp2_with fail
      go_quiet (fail)
      go_wp2_with fail
      go_quiet (fail)
      go_wp2_with fail
      exact ⟨⟨k + 1, _, by omega, by go_num, rfl⟩, by simp [intOf]; omega⟩
    · go_wp2_with fail
      go_ret
      exact ⟨rfl, _, rfl⟩

theorem IsInts.drewN {R : Nat → Prop} {w : World} {v : Value} {xs : List Int} (h : IsInts R w v xs) (n : Nat) : IsInts R (w.drewN n) v xs := h
theorem IsRows.drewN {R : Nat → Prop} {w : World} {v : Value} {xs : List (List Int)} (h : IsRows R w v xs) (n : Nat) : IsRows R (w.drewN n) v xs := h

set_option maxHeartbeats 2000000 in
theorem cmp_eq {R R' : Nat → Prop} {w : World} {v v' : Value} {xss : List (List Int)} (h : IsRows R w v xss) (h' : IsRows R' w v' xss) (hl : xss.length ≤ 1000000) (hl2 : ∀ xs ∈ xss, xs.length ≤ 1000000) :
    Calls Try.prog 12 #[v, v'] w fun e w' => e = .returned (.int .i64 0) ∧ ∃ n, w' = w.drewN n := by
  obtain ⟨p, cap, rfl, hc⟩ := h
  obtain ⟨p', cap', rfl, hc'⟩ := h'
  go_enter Try.func12, Try.ntmps12
  go_wp2
  go_loopw [5] (fun vi wr => ∃ k nq : Nat, k ≤ xss.length ∧ vi = .int .i64 k ∧ wr = w.drewN nq) (fun vi _ => xss.length - (intOf vi).toNat)
  case atStart => exact ⟨0, 0, Nat.zero_le _, rfl, rfl⟩
  case round =>
    obtain ⟨k, nq0, hk, rfl, rfl⟩ := hrel
    by_cases hlt : k < xss.length
    · have hx : xss[k]? = some xss[k] := List.getElem?_eq_getElem hlt
      have hxl := hl2 _ (List.getElem_mem hlt)
      obtain ⟨b, off, vi, rfl, _, hbl, hcell, hin⟩ := hc k _ hx
      obtain ⟨b', off', vi', rfl, _, hbl', hcell', hin'⟩ := hc' k _ hx
      have e1 : (w.drewN nq0).cell? ⟨b, off + k, none⟩ = some vi := hcell
      have e2 : (w.drewN nq0).cell? ⟨b', off' + k, none⟩ = some vi' := hcell'
      have e3 := hin.drewN nq0
      have e4 := hin'.drewN nq0
      have e5 : b < (w.drewN nq0).heap.size := hbl
      have e6 : b' < (w.drewN nq0).heap.size := hbl'
      clear hc hc' hx hl2 hcell hcell' hin hin' hbl hbl'
      obtain ⟨wr, HW⟩ : ∃ wr, w.drewN nq0 = wr := ⟨_, rfl⟩
      rw [HW] at e1 e2 e3 e4 e5 e6 ⊢
      have HW2 := Lib.hid HW
      clear HW
      go_wp2_with fail
      go_quiet ((go_at_call 24; exact Calls.quiet_of (row_eq (e3.drewN _) (e4.drewN _) hxl)))
      go_wp2_with fail
      exact ⟨⟨k + 1, _, by omega, by go_num, by rw [← HW2.out, World.drewN_drewN]⟩, by simp [intOf]; omega⟩
    · go_wp2_with fail
      go_ret
      exact ⟨rfl, _, rfl⟩

end Go.Proofs.Ythflfafenehofaa
