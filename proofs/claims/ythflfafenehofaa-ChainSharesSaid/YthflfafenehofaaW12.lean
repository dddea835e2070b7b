/-
  The walk of ChainShares.
-/
import Derived.Test.YthflfafenehofaaW8
import Derived.Test.YthflfafenehofaaV5
import Derived.Test.YthflfafenehofaaV6
namespace Go.Proofs.Ythflfafenehofaa
open Go.RowKit Go.Shelf

attribute [local go_sem] Oper.semAt_some

/-- What the loop of ChainShares bears. -/
def SharesRel (w : World) (B : Nat) (nums : List Int) (va vm vi : Value) (wr : World) : Prop :=
  ∃ (L : List CN) (N : Nat) (X : Nat → Prop), va = .int .i64 ((N : Int) - 1) ∧ vm = .int .i64 (N : Int) ∧ vi = .int .i64 (N : Int) ∧ N ≤ nums.length ∧ N ≤ 9 ∧ L.length = N ∧
    IsChain X wr (B + 1) B (L.map some) ∧ RowC nums L (lastc N 1) ∧ (∀ b, X b → B ≤ b) ∧ Below w.heap.size w wr


/-- What has come up, of the comparison of the sets of a. -/
def P23 (c N gs os caps : Nat) (pu : Option Addr) (capu : Nat) (x : Int) (xs : List Int) : Nat → Value → World → Prop
  | 0, u, _ => u = .pointer (some ⟨c, 0, none⟩)
  | 1, u, _ => u = .int .i64 (N : Int)
  | 2, u, w => IsRows (fun _ => True) w u [xs, [x]]
  | 3, u, _ => u = .slice (some ⟨gs, os, none⟩) 1 caps
  | 4, u, _ => u = .pointer (some ⟨gs, os, none⟩)
  | 5, u, _ => u = .slice pu N capu
  | 6, u, _ => u = .int .i64 x
  | 7, u, w => ∃ g, u = .slice (some ⟨g, 0, none⟩) 1 1 ∧ IsInts (fun _ => True) w u [x]
  | 8, u, w => IsRows (fun _ => True) w u [xs, [x]]
  | 9, u, _ => u = .int .i64 0
  | 10, u, _ => u = .bool true
  | 11, u, _ => u = .bool true
  | _, _, _ => True
def C23 (w0 : World) (c N gs os caps : Nat) (pu : Option Addr) (capu : Nat) (x : Int) (xs : List Int) (l : Array Bool) (v : Nat → Value) (w : World) : Prop :=
  Below w0.heap.size w0 w ∧ ∀ j, l[j]? = some true → P23 c N gs os caps pu capu x xs j (v j) w
theorem P23.mono {c N gs os caps : Nat} {pu : Option Addr} {capu : Nat} {x : Int} {xs : List Int} {j : Nat} {u : Value} {w w' : World} (h : P23 c N gs os caps pu capu x xs j u w) (hb : Below w.heap.size w w') : P23 c N gs os caps pu capu x xs j u w' := by
  match j, h with
  | 0, h | 1, h | 3, h | 4, h | 5, h | 6, h | 9, h | 10, h | 11, h => exact h
  | 2, h => exact IsRows.below h hb
  | 7, h => obtain ⟨g, e, hi⟩ := h; exact ⟨g, e, hi.below hb⟩
  | 8, h => exact IsRows.below h hb
  | _ + 12, _ => exact trivial
theorem C23.grow {w0 : World} {c N gs os caps : Nat} {pu : Option Addr} {capu : Nat} {x : Int} {xs : List Int} {l : Array Bool} {v : Nat → Value} {w w' : World} {i : Nat} {u : Value} (h : C23 w0 c N gs os caps pu capu x xs l v w) (hb : Below w.heap.size w w')
    (hu : P23 c N gs os caps pu capu x xs i u w') : C23 w0 c N gs os caps pu capu x xs (l.setIfInBounds i true) (upd v i u) w' :=
  ⟨h.1.trans (hb.mono h.1.size), fun j hj => by
    by_cases e : j = i
    · subst e; rw [upd_same]; exact hu
    · rw [upd_other _ _ e]; exact (h.2 j (listed_set hj e)).mono hb⟩
theorem C23.same {w0 : World} {c N gs os caps : Nat} {pu : Option Addr} {capu : Nat} {x : Int} {xs : List Int} {l : Array Bool} {v : Nat → Value} {w : World} {i : Nat} {u : Value} (h : C23 w0 c N gs os caps pu capu x xs l v w)
    (hu : P23 c N gs os caps pu capu x xs i u w) : C23 w0 c N gs os caps pu capu x xs (l.setIfInBounds i true) (upd v i u) w := h.grow (Below.refl _ _) hu
theorem IsInts.belowN {R : Nat → Prop} {w w' : World} {v : Value} {xs : List Int} (h : IsInts R w v xs) (k : Below w.heap.size w w') : IsInts R w' v xs := h.below k

set_option maxHeartbeats 4000000 in
set_option maxRecDepth 100000 in
theorem shares_any {R : Nat → Prop} {w : World} {v : Value} {nums : List Int} (hv : IsInts R w v nums) (x y : Int) :
    Calls Try.prog 4 #[v, .int .i64 x, .int .i64 y] w fun e w' => e = .returned (.bool true) ∧ Below w.heap.size w w' := by
  obtain ⟨p, cap, rfl, hnum⟩ := hv
  have HN := Lib.hid hnum
  clear hnum
  go_enter Try.func4, Try.ntmps4
  go_wp2_with fail
  go_at_call 8
  refine (awake_any _).mono ?_
  rintro e w1 ⟨rfl, hb1⟩
  go_wp2_with fail
  go_at_call 9
  refine (new_any _).mono ?_
  rintro e w2 ⟨rfl, hc2, hb2⟩
  have hwB := hb1.size
  have hst : SharesRel w w1.heap.size nums (.int .i64 (-1)) (.int .i64 0) (.int .i64 0) w2 := by
    refine ⟨[], 0, _, rfl, rfl, rfl, Nat.zero_le _, by omega, rfl, hc2, RowC.nil _ _, ?_, hb1.trans (hb2.mono hb1.size)⟩
    intro b hb; rcases hb with h0 | h0 <;> omega
  clear hc2 hb2
  go_wp2_with fail
  go_loopw [9, 10, 11] (fun va vm vi wr => SharesRel w w1.heap.size nums va vm vi wr) (fun _ _ vi _ => 9 - (intOf vi).toNat)
  case atStart => exact hst
  case round =>
    clear hst
    obtain ⟨L, N, X, rfl, rfl, rfl, hNl, hN9, hN, hch, hrow, hXB, hbel⟩ := hrel
    by_cases hlt : N < nums.length ∧ N < 9
    · obtain ⟨hlt1, hlt2⟩ := hlt
      obtain ⟨z, hz⟩ : ∃ z, nums[N]? = some z := ⟨_, List.getElem?_eq_getElem (by omega)⟩
      obtain ⟨b, off, rfl, _, hbl, hbx⟩ := HN.out _ _ hz
      have hbx1 := (hbel.cell (p := ⟨b, off + N, none⟩) hbl).trans hbx
      have hb1l : b < wr.heap.size := by have := hbel.size; omega
      have HZ := Lib.hid hz
      clear hz hbx hbl
      go_wp2_with fail
      go_at_call 10
      refine (push_sh hN hch hrow (by omega) z).mono ?_
      rintro e w3 ⟨rfl, L', X', bn, hN', hch', hrow', hkp, hX'⟩
      have hbel3 : Below w.heap.size w w3 := hbel.trans (hkp.below hbel.size fun i hi => by have := hXB i hi; omega)
      have hXB' : ∀ i, X' i → w1.heap.size ≤ i := fun i hi => (hX' i hi).elim (hXB i) (fun h => by have := hXB _ hch.1; have := hch.lt _ hch.1; omega)
      by_cases hpos : 0 < N
      · have hge : (0 : Int) ≤ (N : Int) - 1 := by omega
        clear hch hrow hkp hX' hN
        go_wp2_with fail
        go_at_call 11
        refine (drop_held hN' hch' hrow' (by omega) hpos (by simp; omega) (fun n hn => by simp at hn; subst hn; simp)).mono ?_
        rintro e w4 ⟨p4, cap4, rfl, L4, hN4, hch4, hrow4, hkp4⟩
        obtain ⟨j1, j2⟩ := join_sh hN4 hrow4 HZ.out bn
        have hrel : SharesRel w w1.heap.size nums (.int .i64 (N : Int)) (.int .i64 ((N : Int) + 1)) (.int .i64 ((N : Int) + 1)) w4 := by
          rw [← j2] at hch4
          exact ⟨_, N + 1, X', by simp, by simp, by simp, by omega, by omega, by simp [hN4], hch4, j1, hXB', hbel3.trans (hkp4.below hbel3.size fun i hi => by have := hXB' i hi; omega)⟩
        clear hch4 hrow4 hkp4 j1 j2 hN4 hch' hrow' hN' hge
        go_wp2_with fail
        go_roundw
        case rel => exact hrel
        case measure => simp only [intOf]; omega
      · obtain rfl : N = 0 := by omega
        obtain rfl := List.eq_nil_of_length_eq_zero hN'
        have hrel : SharesRel w w1.heap.size nums (.int .i64 0) (.int .i64 1) (.int .i64 1) w3 := by
          obtain ⟨j1, j2⟩ := join_sh rfl (RowC.nil nums (lastc 0 1)) HZ.out bn
          exact ⟨[⟨bn, ((0 : Nat) : Int) - 1, 0, z, ((0 : Nat) : Int), 0, 1⟩], 1, X', by simp, by simp, by simp, by omega, by omega, by simp, hch', j1, hXB', hbel3⟩
        clear hch hrow hkp hX' hN hch' hrow' hN'
        go_wp2_with fail
        go_roundw
        case rel => exact hrel
        case measure => simp only [intOf]; omega
    · have hstop : (N : Int) < (nums.length : Int) → ¬ (N : Int) < 9 := by omega
      clear hlt
      by_cases h0 : N = 0
      · subst h0
        obtain rfl : nums = [] := List.eq_nil_of_length_eq_zero (by omega)
        clear hch hrow
        go_wp2_with fail
        go_ret
        exact ⟨rfl, hbel⟩
      · have hpos : 0 < N := by omega
        have hge : (0 : Int) ≤ (N : Int) - 1 := by omega
        have hch0 : IsChain X wr (w1.heap.size + 1) w1.heap.size (L.map some ++ []) := by rw [List.append_nil]; exact hch
        clear hch
        by_cases hsp : N < nums.length
        all_goals
          go_wp2_with fail
          go_at_call 13
          refine (sets_on hN hch0 hrow hpos (by omega)).mono ?_
          rintro e w3 ⟨vs, rfl, hvs, hb3⟩
          have hch3 := hch0.below hb3
          have hbel3 : Below w.heap.size w w3 := hbel.trans (hb3.mono hbel.size)
          have hB3 : w1.heap.size ≤ w3.heap.size := by have := hXB _ hch3.1; have := hch3.lt _ hch3.1; omega
          have hXlt := hch0.lt
          clear hch0
          go_wp2_with fail
          obtain ⟨gs, os, caps, u, rfl, hgsB, hgsl, hgsc, hu⟩ := rows_first hvs
          obtain ⟨pu, capu, rfl, hui⟩ := hu
          have hul : (nums.take N).length = N := by rw [List.length_take]; omega
          rw [hul] at hgsc
          go_at_call 10
          refine (push_a hN hch3 hrow hpos (by omega) x).mono ?_
          rintro e w4 ⟨rfl, L4, X4, bA, hN4, hch4, hrow4, hkp4, hX4⟩
          have hXB4 : ∀ i, X4 i → w1.heap.size ≤ i := fun i hi => (hX4 i hi).elim (hXB i) (fun h => by omega)
          have hbel4 : Below w.heap.size w w4 := hbel3.trans (hkp4.below hbel3.size fun i hi => by have := hXB i hi; omega)
          have hs4 := hkp4.size
          go_wp2_with fail
          go_at_call 10
          refine (push_b hN4 hch4 hrow4 hpos (by omega) y).mono ?_
          rintro e w5 ⟨rfl, L5, X5, bB, hN5, hch5, hrow5, hkp5, hX5⟩
          have hXB5 : ∀ i, X5 i → w1.heap.size ≤ i := fun i hi => (hX5 i hi).elim (hXB4 i) (fun h => by omega)
          have hbel5 : Below w.heap.size w w5 := hbel4.trans (hkp5.below hbel4.size fun i hi => by have := hXB4 i hi; omega)
          have hs5 := hkp5.size
          go_wp2_with fail
          go_at_call 11
          refine (drop_at hN5 hch5 hrow5 hpos (by omega)).mono ?_
          rintro e w6 ⟨p6, cap6, rfl, L6, hN6, hch6, hrow6, hkp6⟩
          have hbel6 : Below w.heap.size w w6 := hbel5.trans (hkp6.below hbel5.size fun i hi => by have := hXB5 i hi; omega)
          have hs6 := hkp6.size
          have hkw : Keep X w3 w6 := (hkp4.trans' hkp5 hX4).trans' hkp6 fun i hi => (hX5 i hi).elim (hX4 i) (fun h => .inr (by omega))
          have hR : ∀ i, wr.heap.size ≤ i → ¬ X i := fun i h1 hx => by have := hXlt i hx; omega
          have hu6 : IsInts (fun i => wr.heap.size ≤ i) w6 (.slice pu (nums.take N).length capu) (nums.take N) := IsInts.keep ⟨pu, capu, rfl, hui⟩ hkw hR
          rw [hul] at hu6
          have hg6 : w6.cell? ⟨gs, os, none⟩ = some (.slice pu N capu) := (hkw.cell (p := ⟨gs, os, none⟩) hgsl (hR _ hgsB)).trans hgsc
          have hgl6 : gs < w6.heap.size := by have := hkw.size; omega
          clear hch3 hrow hkp4 hX4 hch4 hrow4 hkp5 hX5 hch5 hrow5 hkp6 hkw hgsc hui hR hvs hN hN4 hN5 hXlt hXB hXB4 hb3
          have HS := Lib.hid hul
          clear hul
          go_wp2_with fail
          have hsmall : ∀ xs ∈ [nums.take N, [x]], xs.length ≤ 1000000 := fun xs hxs => by
            simp at hxs
            rcases hxs with rfl | rfl
            · rw [List.length_take]; omega
            · simp
          have HB := Lib.hid hsmall
          clear hsmall
          refine region_inv2 12 [104, 105, 106, 107, 108, 109, 110, 111, 112, 113, 114, 19] (by kernel_rfl) rfl (by kernel_rfl) (C23 w6 (w1.heap.size + 1) N gs os caps pu capu x (nums.take N)) (fun v => ⟨⟨rfl, rfl, rfl, Nat.le_refl _, fun _ _ => rfl⟩, fun j hj => ?_⟩) (fun i l v w' hiN hi hc K hK => ?_) (fun l v w7 hall hc => ?_)
          · rw [Array.getElem?_replicate] at hj
            split at hj <;> cases hj
          · have hsmall := HB.out
            have hcase : i = 0 ∨ i = 1 ∨ i = 2 ∨ i = 3 ∨ i = 4 ∨ i = 5 ∨ i = 6 ∨ i = 7 ∨ i = 8 ∨ i = 9 ∨ i = 10 ∨ i = 11 := by omega
            clear hiN
            rcases hcase with rfl | rfl | rfl | rfl | rfl | rfl | rfl | rfl | rfl | rfl | rfl | rfl
            · refine wpOp_step rfl (fun K' hK' => ?_)
              simp only [putsFrom, Act.put, List.setIfInBounds_toArray, List.set_cons_zero, List.set_cons_succ]
              go_simp
              refine hK' _ _ ?_
              have hz := hK (.pointer (some ⟨w1.heap.size + 1, 0, none⟩)) (w') (hc.same rfl)
              simp only [putsFrom, upd, Act.put, List.setIfInBounds_toArray, List.set_cons_zero, List.set_cons_succ, Nat.reduceEqDiff, reduceIte] at hz
              exact hz
            · refine wpOp_step rfl (fun K' hK' => ?_)
              simp only [putsFrom, Act.put, List.setIfInBounds_toArray, List.set_cons_zero, List.set_cons_succ]
              go_simp
              refine hK' _ _ ?_
              have hz := hK (.int .i64 (N : Int)) (w') (hc.same rfl)
              simp only [putsFrom, upd, Act.put, List.setIfInBounds_toArray, List.set_cons_zero, List.set_cons_succ, Nat.reduceEqDiff, reduceIte] at hz
              exact hz
            · have h0 := hc.2 0 (ready_dep hi 0 (by kernel_rfl))
              have h1 := hc.2 1 (ready_dep hi 1 (by kernel_rfl))
              have e0 : v 0 = .pointer (some ⟨w1.heap.size + 1, 0, none⟩) := h0
              have e1 : v 1 = .int .i64 (N : Int) := h1
              refine wpOp_step rfl (fun K' hK' => ?_)
              simp only [putsFrom, Act.put, List.setIfInBounds_toArray, List.set_cons_zero, List.set_cons_succ]
              go_simp
              go_at_call 13
              refine (sets_a hN6 (hch6.belowN hch6.lt hc.1) hrow6 (by omega)).mono ?_
              rintro e w7 ⟨vr, rfl, hvr, hb7⟩
              refine hK' _ _ ?_
              have hz := hK (vr) (w7) (hc.grow hb7 hvr)
              simp only [putsFrom, upd, Act.put, List.setIfInBounds_toArray, List.set_cons_zero, List.set_cons_succ, Nat.reduceEqDiff, reduceIte, e0, e1] at hz
              exact hz
            · refine wpOp_step rfl (fun K' hK' => ?_)
              simp only [putsFrom, Act.put, List.setIfInBounds_toArray, List.set_cons_zero, List.set_cons_succ]
              go_simp
              refine hK' _ _ ?_
              have hz := hK (.slice (some ⟨gs, os, none⟩) 1 caps) (w') (hc.same rfl)
              simp only [putsFrom, upd, Act.put, List.setIfInBounds_toArray, List.set_cons_zero, List.set_cons_succ, Nat.reduceEqDiff, reduceIte] at hz
              exact hz
            · have h3 := hc.2 3 (ready_dep hi 3 (by kernel_rfl))
              have e3 : v 3 = .slice (some ⟨gs, os, none⟩) 1 caps := h3
              refine wpOp_step rfl (fun K' hK' => ?_)
              simp only [putsFrom, Act.put, List.setIfInBounds_toArray, List.set_cons_zero, List.set_cons_succ]
              go_simp
              refine hK' _ _ ?_
              have hz := hK (.pointer (some ⟨gs, os, none⟩)) (w') (hc.same rfl)
              simp only [putsFrom, upd, Act.put, List.setIfInBounds_toArray, List.set_cons_zero, List.set_cons_succ, Nat.reduceEqDiff, reduceIte, e3] at hz
              exact hz
            · have h4 := hc.2 4 (ready_dep hi 4 (by kernel_rfl))
              have e4 : v 4 = .pointer (some ⟨gs, os, none⟩) := h4
              have hcell := (hc.1.cell (p := ⟨gs, os, none⟩) hgl6).trans hg6
              have hlt : gs < w'.heap.size := Nat.lt_of_lt_of_le hgl6 hc.1.size
              refine wpOp_step rfl (fun K' hK' => ?_)
              simp only [putsFrom, Act.put, List.setIfInBounds_toArray, List.set_cons_zero, List.set_cons_succ]
              go_simp
              refine hK' _ _ ?_
              have hz := hK (.slice pu N capu) (w') (hc.same rfl)
              simp only [putsFrom, upd, Act.put, List.setIfInBounds_toArray, List.set_cons_zero, List.set_cons_succ, Nat.reduceEqDiff, reduceIte, e4] at hz
              exact hz
            · refine wpOp_step rfl (fun K' hK' => ?_)
              simp only [putsFrom, Act.put, List.setIfInBounds_toArray, List.set_cons_zero, List.set_cons_succ]
              go_simp
              refine hK' _ _ ?_
              have hz := hK (.int .i64 x) (w') (hc.same rfl)
              simp only [putsFrom, upd, Act.put, List.setIfInBounds_toArray, List.set_cons_zero, List.set_cons_succ, Nat.reduceEqDiff, reduceIte] at hz
              exact hz
            · have h6 := hc.2 6 (ready_dep hi 6 (by kernel_rfl))
              have e6 : v 6 = .int .i64 x := h6
              refine wpOp_step rfl (fun K' hK' => ?_)
              simp only [putsFrom, Act.put, List.setIfInBounds_toArray, List.set_cons_zero, List.set_cons_succ]
              go_simp
              refine hK' _ _ ?_
              have hz := hK (.slice (some ⟨w'.heap.size, 0, none⟩) 1 1) (w'.alloc (.cells #[.int .i64 x] 3)) (hc.grow ((Below.refl _ _).alloc (Nat.le_refl _) _) ⟨_, rfl, ints_new w' x⟩)
              simp only [putsFrom, upd, Act.put, List.setIfInBounds_toArray, List.set_cons_zero, List.set_cons_succ, Nat.reduceEqDiff, reduceIte, e6] at hz
              exact hz
            · have h5 := hc.2 5 (ready_dep hi 5 (by kernel_rfl))
              have h7 := hc.2 7 (ready_dep hi 7 (by kernel_rfl))
              have e5 : v 5 = .slice pu N capu := h5
              obtain ⟨g7, e7, h7i⟩ := h7
              rw [e7] at h7i
              refine wpOp_step rfl (fun K' hK' => ?_)
              simp only [putsFrom, Act.put, List.setIfInBounds_toArray, List.set_cons_zero, List.set_cons_succ]
              go_simp
              refine hK' _ _ ?_
              have hz := hK (.slice (some ⟨w'.heap.size, 0, none⟩) 2 2) (w'.alloc (.cells #[.slice pu N capu, .slice (some ⟨g7, 0, none⟩) 1 1] 22)) (hc.grow ((Below.refl _ _).alloc (Nat.le_refl _) _) (rows_new2 ((hu6.belowN hc.1).mono fun _ _ => trivial) h7i))
              simp only [putsFrom, upd, Act.put, List.setIfInBounds_toArray, List.set_cons_zero, List.set_cons_succ, Nat.reduceEqDiff, reduceIte, e5, e7] at hz
              exact hz
            · have h2 := hc.2 2 (ready_dep hi 2 (by kernel_rfl))
              have h8 := hc.2 8 (ready_dep hi 8 (by kernel_rfl))
              refine wpOp_step rfl (fun K' hK' => ?_)
              simp only [putsFrom, Act.put, List.setIfInBounds_toArray, List.set_cons_zero, List.set_cons_succ]
              go_simp
              go_at_call 12
              refine (cmp_same h2 h8 (by simp) (fun xs hxs => hsmall xs hxs)).mono ?_
              rintro e w7 ⟨rfl, hb7⟩
              refine hK' _ _ ?_
              have hz := hK (.int .i64 0) (w7) (hc.grow hb7 rfl)
              simp only [putsFrom, upd, Act.put, List.setIfInBounds_toArray, List.set_cons_zero, List.set_cons_succ, Nat.reduceEqDiff, reduceIte] at hz
              exact hz
            · have h9 := hc.2 9 (ready_dep hi 9 (by kernel_rfl))
              have e9 : v 9 = .int .i64 0 := h9
              refine wpOp_step rfl (fun K' hK' => ?_)
              simp only [putsFrom, Act.put, List.setIfInBounds_toArray, List.set_cons_zero, List.set_cons_succ]
              go_simp
              refine hK' _ _ ?_
              have hz := hK (.bool true) (w') (hc.same rfl)
              simp only [putsFrom, upd, Act.put, List.setIfInBounds_toArray, List.set_cons_zero, List.set_cons_succ, Nat.reduceEqDiff, reduceIte, e9] at hz
              exact hz
            · have h10 := hc.2 10 (ready_dep hi 10 (by kernel_rfl))
              have e10 : v 10 = .bool true := h10
              refine wpOp_step rfl (fun K' hK' => ?_)
              simp only [putsFrom, Act.put, List.setIfInBounds_toArray, List.set_cons_zero, List.set_cons_succ]
              go_simp
              refine hK' _ _ ?_
              have hz := hK (.bool true) (w') (hc.same rfl)
              simp only [putsFrom, upd, Act.put, List.setIfInBounds_toArray, List.set_cons_zero, List.set_cons_succ, Nat.reduceEqDiff, reduceIte, e10] at hz
              exact hz
          · have hb7 := hc.1
            have e11 : v 11 = .bool true := hc.2 11 (hall 11 (by omega))
            have hch7 : IsChain X5 w7 (w1.heap.size + 1) w1.heap.size (L6.map some ++ [some (nodeA bA N x), some (nodeB bB N y)]) := hch6.belowN hch6.lt hb7
            have hu7 := hu6.below hb7
            have hg7 : w7.cell? ⟨gs, os, none⟩ = some (.slice pu N capu) := (hb7.cell (p := ⟨gs, os, none⟩) hgl6).trans hg6
            have hgl7 : gs < w7.heap.size := Nat.lt_of_lt_of_le hgl6 hb7.size
            have hbel7 : Below w.heap.size w w7 := hbel6.trans (hb7.mono hbel6.size)
            clear hc hall hch6 hu6 hg6 hgl6 hb7 hbel6 HB
            simp only [putsFrom, Act.put, List.setIfInBounds_toArray, List.set_cons_zero, List.set_cons_succ]
            rw [e11]
            clear e11
            generalize v 0 = y0, v 1 = y1, v 2 = y2, v 3 = y3, v 4 = y4, v 5 = y5, v 6 = y6, v 7 = y7, v 8 = y8, v 9 = y9, v 10 = y10
            clear v
            go_wp2_with fail
            have hsmall : ∀ xs ∈ [nums.take N ++ [y]], xs.length ≤ 1000000 := fun xs hxs => by
              simp at hxs
              subst hxs
              rw [List.length_append, List.length_take]; simp; omega
            have HB := Lib.hid hsmall
            clear hsmall
            refine region_inv3 15 [115, 116, 117, 118, 119, 120, 121, 122, 123, 124, 125, 126, 127, 128, 20] (by kernel_rfl) rfl (by kernel_rfl) (C24 w7 (w1.heap.size + 1) N gs os caps pu capu y (nums.take N)) (fun v => C24.start 15 v) (fun i l v w' hiN hi hcl hc K hK => ?_) (fun l v w8 hall hc => ?_)
            · have hsmall := HB.out
              have hcase : i = 0 ∨ i = 1 ∨ i = 2 ∨ i = 3 ∨ i = 4 ∨ i = 5 ∨ i = 6 ∨ i = 7 ∨ i = 8 ∨ i = 9 ∨ i = 10 ∨ i = 11 ∨ i = 12 ∨ i = 13 ∨ i = 14 := by omega
              clear hiN
              rcases hcase with rfl | rfl | rfl | rfl | rfl | rfl | rfl | rfl | rfl | rfl | rfl | rfl | rfl | rfl | rfl
              · refine wpOp_step rfl (fun K' hK' => ?_)
                simp only [putsFrom, Act.put, List.setIfInBounds_toArray, List.set_cons_zero, List.set_cons_succ]
                go_simp
                refine hK' _ _ ?_
                have hz := hK (.pointer (some ⟨w1.heap.size + 1, 0, none⟩)) (w') (hc.same rfl)
                simp only [putsFrom, upd, Act.put, List.setIfInBounds_toArray, List.set_cons_zero, List.set_cons_succ, Nat.reduceEqDiff, reduceIte] at hz
                exact hz
              · refine wpOp_step rfl (fun K' hK' => ?_)
                simp only [putsFrom, Act.put, List.setIfInBounds_toArray, List.set_cons_zero, List.set_cons_succ]
                go_simp
                refine hK' _ _ ?_
                have hz := hK (.int .i64 ((N : Int) + 1)) (w') (hc.same rfl)
                simp only [putsFrom, upd, Act.put, List.setIfInBounds_toArray, List.set_cons_zero, List.set_cons_succ, Nat.reduceEqDiff, reduceIte] at hz
                exact hz
              · have e0 : v 0 = .pointer (some ⟨w1.heap.size + 1, 0, none⟩) := hc.p 0 (ready_dep hi 0 (by kernel_rfl))
                have e1 : v 1 = .int .i64 ((N : Int) + 1) := hc.p 1 (ready_dep hi 1 (by kernel_rfl))
                refine wpOp_step rfl (fun K' hK' => ?_)
                simp only [putsFrom, Act.put, List.setIfInBounds_toArray, List.set_cons_zero, List.set_cons_succ]
                go_simp
                go_at_call 13
                refine (sets_b' hN6 (hch7.belowN hch7.lt hc.bel) hrow6 (by omega)).mono ?_
                rintro e w8 ⟨vr, rfl, hvr, hb8⟩
                refine hK' _ _ ?_
                have hz := hK (vr) (w8) (hc.two hb8 hvr)
                simp only [putsFrom, upd, Act.put, List.setIfInBounds_toArray, List.set_cons_zero, List.set_cons_succ, Nat.reduceEqDiff, reduceIte, e0, e1] at hz
                exact hz
              · refine wpOp_step rfl (fun K' hK' => ?_)
                simp only [putsFrom, Act.put, List.setIfInBounds_toArray, List.set_cons_zero, List.set_cons_succ]
                go_simp
                refine hK' _ _ ?_
                have hz := hK (.slice (some ⟨w'.heap.size, 0, none⟩) 0 0) (w'.alloc (.cells #[] 3)) (hc.three ((Below.refl _ _).alloc (Nat.le_refl _) _) (blk_new w' _))
                simp only [putsFrom, upd, Act.put, List.setIfInBounds_toArray, List.set_cons_zero, List.set_cons_succ, Nat.reduceEqDiff, reduceIte] at hz
                exact hz
              · refine wpOp_step rfl (fun K' hK' => ?_)
                simp only [putsFrom, Act.put, List.setIfInBounds_toArray, List.set_cons_zero, List.set_cons_succ]
                go_simp
                refine hK' _ _ ?_
                have hz := hK (.slice (some ⟨gs, os, none⟩) 1 caps) (w') (hc.same rfl)
                simp only [putsFrom, upd, Act.put, List.setIfInBounds_toArray, List.set_cons_zero, List.set_cons_succ, Nat.reduceEqDiff, reduceIte] at hz
                exact hz
              · have e4 : v 4 = .slice (some ⟨gs, os, none⟩) 1 caps := hc.p 4 (ready_dep hi 4 (by kernel_rfl))
                refine wpOp_step rfl (fun K' hK' => ?_)
                simp only [putsFrom, Act.put, List.setIfInBounds_toArray, List.set_cons_zero, List.set_cons_succ]
                go_simp
                refine hK' _ _ ?_
                have hz := hK (.pointer (some ⟨gs, os, none⟩)) (w') (hc.same rfl)
                simp only [putsFrom, upd, Act.put, List.setIfInBounds_toArray, List.set_cons_zero, List.set_cons_succ, Nat.reduceEqDiff, reduceIte, e4] at hz
                exact hz
              · have e5 : v 5 = .pointer (some ⟨gs, os, none⟩) := hc.p 5 (ready_dep hi 5 (by kernel_rfl))
                have hcell := (hc.bel.cell (p := ⟨gs, os, none⟩) hgl7).trans hg7
                have hlt : gs < w'.heap.size := Nat.lt_of_lt_of_le hgl7 hc.bel.size
                refine wpOp_step rfl (fun K' hK' => ?_)
                simp only [putsFrom, Act.put, List.setIfInBounds_toArray, List.set_cons_zero, List.set_cons_succ]
                go_simp
                refine hK' _ _ ?_
                have hz := hK (.slice pu N capu) (w') (hc.same rfl)
                simp only [putsFrom, upd, Act.put, List.setIfInBounds_toArray, List.set_cons_zero, List.set_cons_succ, Nat.reduceEqDiff, reduceIte, e5] at hz
                exact hz
              · have e6 : v 6 = .slice pu N capu := hc.p 6 (ready_dep hi 6 (by kernel_rfl))
                obtain ⟨g3, e3, hg3⟩ := hc.s3 (ready_dep hi 3 (by kernel_rfl))
                have hn10 : l[10]? ≠ some true := fun h => by have h7 := hcl 10 7 h (by kernel_rfl); rw [ready_false hi] at h7; cases h7
                obtain ⟨cap7, W7, hrun7, hb8, hown7⟩ := app_zero (hg3 hn10) (hu7.below hc.bel) HS.out hpos (by omega)
                clear hn10 hg3
                refine wpOp_step rfl (fun K' hK' => ?_)
                simp only [putsFrom, Act.put, List.setIfInBounds_toArray, List.set_cons_zero, List.set_cons_succ]
                refine if_wanted rfl ?_
                refine wp_append_run _ _ 22 rfl _ _ (show _ = _ from e3) (show _ = _ from e6) hrun7 ?_
                refine hK' _ _ ?_
                have hz := hK (.slice (some ⟨w'.heap.size, 0, none⟩) N cap7) (W7) (hc.seven hb8 hown7)
                simp only [putsFrom, upd, Act.put, List.setIfInBounds_toArray, List.set_cons_zero, List.set_cons_succ, Nat.reduceEqDiff, reduceIte] at hz ⊢
                exact hz
              · refine wpOp_step rfl (fun K' hK' => ?_)
                simp only [putsFrom, Act.put, List.setIfInBounds_toArray, List.set_cons_zero, List.set_cons_succ]
                go_simp
                refine hK' _ _ ?_
                have hz := hK (.int .i64 y) (w') (hc.same rfl)
                simp only [putsFrom, upd, Act.put, List.setIfInBounds_toArray, List.set_cons_zero, List.set_cons_succ, Nat.reduceEqDiff, reduceIte] at hz
                exact hz
              · have e8 : v 8 = .int .i64 y := hc.p 8 (ready_dep hi 8 (by kernel_rfl))
                refine wpOp_step rfl (fun K' hK' => ?_)
                simp only [putsFrom, Act.put, List.setIfInBounds_toArray, List.set_cons_zero, List.set_cons_succ]
                go_simp
                refine hK' _ _ ?_
                have hz := hK (.slice (some ⟨w'.heap.size, 0, none⟩) 1 1) (w'.alloc (.cells #[.int .i64 y] 3)) (hc.nine ((Below.refl _ _).alloc (Nat.le_refl _) _) (blk_new w' _))
                simp only [putsFrom, upd, Act.put, List.setIfInBounds_toArray, List.set_cons_zero, List.set_cons_succ, Nat.reduceEqDiff, reduceIte, e8] at hz
                exact hz
              · have h7l := ready_dep hi 7 (by kernel_rfl)
                have hn10 : l[10]? ≠ some true := fun h => by rw [ready_false hi] at h; cases h
                have hn11 : l[11]? ≠ some true := fun h => hn10 (hcl 11 10 h (by kernel_rfl))
                obtain ⟨g7, cap7, e7, _, _, hown7⟩ := hc.s7 h7l
                obtain ⟨g9, e9, hg9⟩ := hc.s9 (ready_dep hi 9 (by kernel_rfl))
                have hown7' := hown7 hn10
                have hg9' := hg9 hn10
                have hf10 := ready_false hi
                obtain ⟨g10, cap10, W10, hrun10, hi10, hgr10⟩ := app_one hown7' HS.out hg9' (by omega) hc.bel.size
                rw [e7] at hrun10
                have H10 := Lib.hid (hc.ten h7l hf10 hn11 hgr10 ⟨g10, cap10, rfl, hi10⟩)
                clear hown7 hg9 hown7' hg9' hn10 hn11 h7l hf10 hgr10 hi10
                refine wpOp_step rfl (fun K' hK' => ?_)
                simp only [putsFrom, Act.put, List.setIfInBounds_toArray, List.set_cons_zero, List.set_cons_succ]
                refine if_wanted rfl ?_
                refine wp_append_run _ _ 22 rfl _ _ (show _ = _ from e7) (show _ = _ from e9) hrun10 ?_
                refine hK' _ _ ?_
                have hz := hK (.slice (some ⟨g10, 0, none⟩) (N + 1) cap10) (W10) (H10.out)
                simp only [putsFrom, upd, Act.put, List.setIfInBounds_toArray, List.set_cons_zero, List.set_cons_succ, Nat.reduceEqDiff, reduceIte] at hz ⊢
                exact hz
              · obtain ⟨g10, cap10, e10, hi10⟩ := hc.p 10 (ready_dep hi 10 (by kernel_rfl))
                rw [e10] at hi10
                refine wpOp_step rfl (fun K' hK' => ?_)
                simp only [putsFrom, Act.put, List.setIfInBounds_toArray, List.set_cons_zero, List.set_cons_succ]
                go_simp
                refine hK' _ _ ?_
                have hz := hK (.slice (some ⟨w'.heap.size, 0, none⟩) 1 1) (w'.alloc (.cells #[.slice (some ⟨g10, 0, none⟩) (N + 1) cap10] 22)) (hc.grow ((Below.refl _ _).alloc (Nat.le_refl _) _) (rows_new1 hi10))
                simp only [putsFrom, upd, Act.put, List.setIfInBounds_toArray, List.set_cons_zero, List.set_cons_succ, Nat.reduceEqDiff, reduceIte, e10] at hz
                exact hz
              · obtain ⟨R2, h2, _, _⟩ := hc.s2 (ready_dep hi 2 (by kernel_rfl))
                have h11 : IsRows (fun _ => True) w' (v 11) [nums.take N ++ [y]] := hc.p 11 (ready_dep hi 11 (by kernel_rfl))
                refine wpOp_step rfl (fun K' hK' => ?_)
                simp only [putsFrom, Act.put, List.setIfInBounds_toArray, List.set_cons_zero, List.set_cons_succ]
                go_simp
                go_at_call 12
                refine (cmp_same h2 h11 (by simp) (fun xs hxs => hsmall xs hxs)).mono ?_
                rintro e w8 ⟨rfl, hb8⟩
                refine hK' _ _ ?_
                have hz := hK (.int .i64 0) (w8) (hc.grow hb8 rfl)
                simp only [putsFrom, upd, Act.put, List.setIfInBounds_toArray, List.set_cons_zero, List.set_cons_succ, Nat.reduceEqDiff, reduceIte] at hz
                exact hz
              · have e12 : v 12 = .int .i64 0 := hc.p 12 (ready_dep hi 12 (by kernel_rfl))
                refine wpOp_step rfl (fun K' hK' => ?_)
                simp only [putsFrom, Act.put, List.setIfInBounds_toArray, List.set_cons_zero, List.set_cons_succ]
                go_simp
                refine hK' _ _ ?_
                have hz := hK (.bool true) (w') (hc.same rfl)
                simp only [putsFrom, upd, Act.put, List.setIfInBounds_toArray, List.set_cons_zero, List.set_cons_succ, Nat.reduceEqDiff, reduceIte, e12] at hz
                exact hz
              · have e13 : v 13 = .bool true := hc.p 13 (ready_dep hi 13 (by kernel_rfl))
                refine wpOp_step rfl (fun K' hK' => ?_)
                simp only [putsFrom, Act.put, List.setIfInBounds_toArray, List.set_cons_zero, List.set_cons_succ]
                go_simp
                refine hK' _ _ ?_
                have hz := hK (.bool true) (w') (hc.same rfl)
                simp only [putsFrom, upd, Act.put, List.setIfInBounds_toArray, List.set_cons_zero, List.set_cons_succ, Nat.reduceEqDiff, reduceIte, e13] at hz
                exact hz
            · have hb8 := hc.bel
              have e14 : v 14 = .bool true := hc.p 14 (hall 14 (by omega))
              have hch8 : IsChain X5 w8 (w1.heap.size + 1) w1.heap.size (L6.map some ++ [some (nodeA bA N x), some (nodeB bB N y)]) := hch7.belowN hch7.lt hb8
              have hbel8 : Below w.heap.size w w8 := hbel7.trans (hb8.mono hbel7.size)
              clear hc hall hch7 hu7 hg7 hgl7 hb8 hbel7 HB
              simp only [putsFrom, Act.put, List.setIfInBounds_toArray, List.set_cons_zero, List.set_cons_succ]
              rw [e14]
              clear e14
              generalize v 0 = z0, v 1 = z1, v 2 = z2, v 3 = z3, v 4 = z4, v 5 = z5, v 6 = z6, v 7 = z7, v 8 = z8, v 9 = z9, v 10 = z10, v 11 = z11, v 12 = z12, v 13 = z13
              clear v
              go_wp2_with fail
              go_at_call 11
              refine (drop_a' hN6 hch8 hrow6 hpos (by omega)).mono ?_
              rintro e w9 ⟨g9, cap9, rfl, hg9l, hg9, hg9B, L9, hN9', hch9, hrow9, hkp9⟩
              have hbel9 : Below w.heap.size w w9 := hbel8.trans (hkp9.below hbel8.size fun i hi => by have := hXB5 i hi; omega)
              have hXlt8 := hch8.lt
              clear hch8 hrow6 hkp9
              go_wp2_with fail
              go_at_call 15
              refine (back_b hN9' hch9 hrow9 (by omega)).mono ?_
              rintro e w10 ⟨p10, cap10, rfl, hb10⟩
              have hch10 := hch9.belowN hch9.lt hb10
              have hbel10 : Below w.heap.size w w10 := hbel9.trans (hb10.mono hbel9.size)
              have hg10 : w10.cell? ⟨g9, 0, none⟩ = some (.int .i64 100) := (hb10.cell (p := ⟨g9, 0, none⟩) hg9l).trans hg9
              have hg10l : g9 < w10.heap.size := Nat.lt_of_lt_of_le hg9l hb10.size
              clear hch9 hg9 hg9l hb10
              go_wp2_with fail
              go_at_call 14
              refine (live_b hN9' hch10).mono ?_
              rintro e w11 ⟨rfl, rfl⟩
              go_wp2_with fail
              go_at_call 11
              refine (drop_b' hN9' hch10 hrow9 (by omega)).mono ?_
              rintro e w11 ⟨p11, cap11, M11, rfl, hch11, hcn11, hkp11⟩
              have hgx : ¬ X5 g9 := fun hx => by have := hXlt8 _ hx; omega
              have hg11 : w11.cell? ⟨g9, 0, none⟩ = some (.int .i64 100) := (hkp11.cell (p := ⟨g9, 0, none⟩) hg10l hgx).trans hg10
              have hg11l : g9 < w11.heap.size := by have := hkp11.size; omega
              have hbel11 : Below w.heap.size w w11 := hbel10.trans (hkp11.below hbel10.size fun i hi => by have := hXB5 i hi; omega)
              clear hch10 hrow9 hkp11 hg10 hg10l
              go_wp2_with fail
              go_at_call 14
              refine (live_none hch11 hcn11).mono ?_
              rintro e w12 ⟨rfl, rfl⟩
              go_wp2_with fail
              go_ret
              exact ⟨rfl, hbel11⟩

end Go.Proofs.Ythflfafenehofaa
