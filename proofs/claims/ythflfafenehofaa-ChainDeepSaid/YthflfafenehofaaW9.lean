/-
  The walk of ChainDeep. Printed by wip/mk9.py.
-/
import Derived.Test.YthflfafenehofaaW8
import Derived.Test.YthflfafenehofaaV3
namespace Go.Proofs.Ythflfafenehofaa
open Go.RowKit Go.Shelf

attribute [local go_sem] Oper.semAt_some

/-- What the first loop of ChainDeep bears. -/
def DeepRel (w : World) (B : Nat) (nums : List Int) (n : Nat) (va vc vw vi : Value) (wr : World) : Prop :=
  ∃ (L : List CN) (cell : Nat) (X : Nat → Prop) (cs : List Value), va = .int .i64 ((L.length : Int) - 1) ∧ vc = .int .i64 (cell : Int) ∧ vi = .int .i64 (L.length : Int) ∧ L.length ≤ n ∧ cell ≤ 5 ∧ RowOf nums L cell ∧
    IsChain X wr (B + 1) B (L.map some) ∧ (∀ b, X b → B ≤ b) ∧ Want B X wr vw (rowsOf (cell + 1) (prs L)) cs ∧ Below w.heap.size w wr

/-- What the second loop of ChainDeep bears. -/
def DeepRel2 (B : Nat) (X : Nat → Prop) (P : List (Int × Int)) (cell n : Nat) (W : World) (vi : Value) (wr : World) : Prop :=
  ∃ (L : List CN) (j : Nat), vi = .int .i64 (j : Int) ∧ j + 1 ≤ n ∧ L.length = n ∧ IsChain X wr (B + 1) B (L.map some) ∧ RowJ P L cell j ∧ Keep X W wr

set_option maxHeartbeats 4000000 in
set_option maxRecDepth 100000 in
theorem deep_any {R : Nat → Prop} {w : World} {v : Value} {nums : List Int} (hv : IsInts R w v nums) (bits : Int) :
    Calls Try.prog 3 #[v, .int .i64 bits] w fun e w' => e = .returned (.bool true) ∧ Below w.heap.size w w' := by
  obtain ⟨p, cap, rfl, hnum⟩ := hv
  have HN := Lib.hid hnum
  clear hnum
  go_enter Try.func3, Try.ntmps3
  go_wp2_with fail
  go_at_call 8
  refine (awake_any _).mono ?_
  rintro e w1 ⟨rfl, hb1⟩
  go_wp2_with fail
  go_at_call 9
  refine (new_any _).mono ?_
  rintro e w2 ⟨rfl, hc2, hb2⟩
  go_wp2_with fail
  case' inl h =>
    obtain ⟨n, hn, h12, hl⟩ : ∃ n : Nat, (12 : Int) = (n : Int) ∧ n ≤ 12 ∧ n ≤ nums.length := ⟨12, rfl, by omega, by omega⟩
    rw [hn]
    clear hn h
  case' inr h =>
    obtain ⟨n, hn, h12, hl⟩ : ∃ n : Nat, (nums.length : Int) = (n : Int) ∧ n ≤ 12 ∧ n ≤ nums.length := ⟨_, rfl, by omega, by omega⟩
    rw [hn]
    clear hn h
  all_goals
    have hbw : Below w.heap.size w (w2.alloc (.cells #[.slice none 0 0] 22)) := hb1.trans ((hb2.mono hb1.size).alloc (by have := hb1.size; have := hb2.size; omega) _)
    have hwB := hb1.size
    have hst : DeepRel w w1.heap.size nums n (.int .i64 (-1)) (.int .i64 0) (.slice (some ⟨w2.heap.size, 0, none⟩) 1 1) (.int .i64 0) (w2.alloc (.cells #[.slice none 0 0] 22)) := by
      refine ⟨[], 0, _, [.slice none 0 0], rfl, rfl, rfl, Nat.zero_le _, by omega, RowOf.nil _, hc2.alloc _, ?_, ?_, hbw⟩
      · intro b hb; rcases hb with h0 | h0 <;> omega
      · have hblk := blk_new w2 (.cells #[.slice none 0 0] 22)
        have h21 := hb2.size
        refine ⟨⟨rfl, .inr ⟨w2.heap.size, 1, #[.slice none 0 0], rfl, h21, hblk, Nat.le_refl _, by unfold maxLen; omega, rfl, rfl⟩⟩, fun b hb hx => ?_, fun i xs hi => ?_, fun i vi b hi hb => ?_, fun i j vi vj b hi hj hb => ?_⟩
        · injection hb with hb; subst hb
          exact Nat.lt_irrefl _ (hc2.lt _ hx)
        · match i, hi with
          | 0, hi => injection hi with hi; subst hi; exact ⟨.slice none 0 0, rfl, World.ownsRow_nil _ _ _ _⟩
        · match i, hi with
          | 0, hi => injection hi with hi; subst hi; cases hb
        · match i, hi with
          | 0, hi => injection hi with hi; subst hi; cases hb
    generalize (w2.alloc (.cells #[.slice none 0 0] 22)) = w3 at hst ⊢
    clear hbw hc2 hb2
    go_loopw [7, 8, 9, 11] (fun va vc vw vi wr => DeepRel w w1.heap.size nums n va vc vw vi wr) (fun _ _ _ vi _ => n - (intOf vi).toNat)
    case atStart => exact hst
    case round =>
      clear hst
      obtain ⟨L, cell, X, cs, rfl, rfl, rfl, hLn, hcell, hrow, hch, hXB, hwant, hbel⟩ := hrel
      by_cases hlt : L.length < n
      · obtain ⟨x, hx⟩ : ∃ x, nums[L.length]? = some x := ⟨_, List.getElem?_eq_getElem (by omega)⟩
        obtain ⟨b, off, rfl, _, hbl, hbx⟩ := HN.out _ _ hx
        have hbB : b < w1.heap.size := by omega
        have hbx1 := (hbel.cell (p := ⟨b, off + L.length, none⟩) hbl).trans hbx
        have hb1l : b < wr.heap.size := by have := hbel.size; omega
        have hBr : w1.heap.size ≤ wr.heap.size := by have := (hch.lt _ hch.1); have := hXB _ hch.1; omega
        obtain ⟨v5, w5, hrun5, hwant5, hkeep5⟩ := hwant.more hch.lt hBr (by rw [rowsOf_length]; omega) 26
        have hch5 : IsChain X w5 (w1.heap.size + 1) w1.heap.size (L.map some) := hch.keep hkeep5 fun i hi hn => hn.2 hi
        rw [← rowsOf_more (cell + 1) (prs L) (prs_lt hrow)] at hwant5
        have hbx5 : w5.cell? ⟨b, off + L.length, none⟩ = some (.int .i64 x) := (hkeep5.cell (p := ⟨b, off + L.length, none⟩) hb1l (fun hn => by have := hn.1; dsimp only at this; omega)).trans hbx1
        have hb5l : b < w5.heap.size := by have := hkeep5.size; omega
        have hbel5 : Below w.heap.size w w5 := hbel.trans (hkeep5.below hbel.size fun i hi => by have := hi.1; omega)
        have HX := Lib.hid hx
        have HR := Lib.hid hrun5
        clear hx hbx hbl hrun5
        go_wp2_with (at_builtin; refine wpList_append_run rfl _ _ 26 rfl _ _ rfl rfl HR.out ?_)
        · obtain ⟨cell', hcd⟩ : ∃ cell' : Nat, cell' = cell + 1 := ⟨_, rfl⟩
          have hc1 : cell ≤ cell' := by omega
          have hc2 : cell' ≤ cell + 1 := by omega
          have hc3 : L = [] → cell' = 0 := fun h => by subst h; simp at *
          have hc5 : cell' ≤ 5 := by omega
          have hWANT := hwant5
          rw [← hcd] at hWANT
          have eC : (cell : Int) + 1 = (cell' : Int) := by omega
          try rw [eC]
          go_at_call 10
          refine (push_row hch5 hrow (by omega) cell' hc1 hc2 hc3 hc5 HX.out).mono ?_
          rintro e W2 ⟨rfl, L', X', hch', hrow', hprs, hlen', hkeep', hX'⟩
          have hXB' : ∀ i, X' i → w1.heap.size ≤ i := fun i hi => (hX' i hi).elim (hXB i) (fun h => by have := hbel5.size; have := hXB _ hch5.1; have := hch5.lt _ hch5.1; omega)
          have hwant2 := (hWANT.keep hkeep' hX').keep ((Keep.refl X' W2).drew) fun i hi => .inl hi
          have hbx2 : W2.cell? ⟨b, off + L.length, none⟩ = some (.int .i64 x) := (hkeep'.cell (p := ⟨b, off + L.length, none⟩) hb5l (fun hn => by have := hXB _ hn; dsimp only at this; omega)).trans hbx5
          have hb2l : b < W2.heap.size := by have := hkeep'.size; omega
          have hBr2 : w1.heap.size ≤ W2.drew.heap.size := by have := hkeep'.size; have := hbel5.size; have := hXB _ hch5.1; have := hch5.lt _ hch5.1; show _ ≤ W2.heap.size; omega
          have hbel2 : Below w.heap.size w W2.drew := by
            have h0 : Below w.heap.size w W2 := hbel5.trans (hkeep'.below hbel5.size fun i hi => by have := hXB i hi; omega)
            exact ⟨h0.os, h0.tape, h0.output, h0.size, h0.block⟩
          have hxs := rowsOf_get (cell' + 1) (prs L) cell' (by omega)
          obtain ⟨g, gcap, vi, v3, W3, hvw, hgl, hgi, hgf, hrun3, hgw, hgr3, hwant3, hkeep3⟩ := hwant2.put hch'.lt hBr2 cell' _ hxs (by
            have h1 := List.length_filter_le (fun p : Int × Int => p.1 == (cell' : Int)) (prs L)
            have h2 : (prs L).length = L.length := by simp [prs]
            rw [List.length_map]
            omega) x 22
          obtain ⟨p3, l3, c3, rfl⟩ := hwant3.slice_put (by rw [rowsOf_length]; omega)
          have hrunN : Hid ((do pure (Next.value (← Builtin.append_ #[22, 22] 22 #[vi, .slice (some ⟨W2.heap.size, 0, none⟩) 1 1])) : Sem Next).run Try.prog (W2.alloc (.cells #[.int .i64 x] 3)).drew = .ok (.value (.slice p3 l3 c3)) W3) := Lib.hid (by
            have hrun' : (Builtin.append_ #[22, 22] 22 #[vi, .slice (some ⟨W2.heap.size, 0, none⟩) 1 1]).run Try.prog (W2.alloc (.cells #[.int .i64 x] 3)).drew = .ok (.slice p3 l3 c3) W3 := hrun3
            simp only [Sem.run_bind, hrun', Result.andThen, Sem.run_pure])
          have hgl' : g < W2.heap.size := hgl
          have hgi' : W2.cell? ⟨g, cell', none⟩ = some vi := hgi
          have hs3 : W2.heap.size ≤ W3.heap.size := by have := hgr3.size; simp at this; have : W2.drew.heap.size = W2.heap.size := rfl; omega
          have hgi3 : W3.cell? ⟨g, cell', none⟩ = some vi := (World.cell?_of_block (w := W2) (a := ⟨g, cell', none⟩) hgw).trans hgi'
          have hgf3 : W3.frozen? ⟨g, cell', none⟩ = false := (World.frozen?_of_block (w := W2) (a := ⟨g, cell', none⟩) hgw).trans hgf
          have hbx4 := (hkeep3.cell (p := ⟨b, off + L.length, none⟩) hb2l (fun hn => by have := hn.1; dsimp only at this; omega)).trans hbx2
          have hgB : g ≠ b := by
            intro e
            have := (hWANT.own.lt g (by rw [hvw]; rfl)).1
            omega
          have hbx3 : W3.cell? ⟨b, off + L.length, none⟩ = some (.int .i64 x) := (World.cell?_of_block (w := W3) (a := ⟨b, off + L.length, none⟩) (Below.heap_setCell W3 ⟨g, cell', none⟩ (.slice p3 l3 c3) b (Ne.symm hgB))).symm.trans hbx4
          have hs17 : W3.cell? ⟨g, cell', none⟩ = some vi ∧ W3.cell? ⟨b, off + L.length, none⟩ = some (.int .i64 x) ∧ g < W3.heap.size ∧ b < W3.heap.size := ⟨hgi3, hbx3, by omega, by omega⟩
          have hgl3 : g < W3.heap.size := hs17.2.2.1
          clear hgi hgl hgf hbx4
          rw [rowsOf_length] at hvw
          subst hvw
          clear hWANT hwant2
          have HV := Lib.hid hrun3
          have HG := Lib.hid (And.intro hc3 (And.intro hcd (And.intro hprs (And.intro hlen' (And.intro hX' hXB')))))
          clear hrun3 hxs hc3 hcd hprs hlen' hX' hXB' eC hkeep' hgr3 hgw hc1 hc2
          go_wp2_with fail
          refine (wpIn_wide (n := 0)).1 ?_
          refine region_goes' (F := Fence.wide) (n := 0) (S := fun w' => w'.cell? ⟨g, cell', none⟩ = some vi ∧ w'.cell? ⟨b, off + L.length, none⟩ = some (.int .i64 x) ∧ g < w'.heap.size ∧ b < w'.heap.size) (last := 13) 14 (l := #[false, false, false, false, false, false, false, false, false, false, false, false, false, false]) (fun _ => trivial) (by kernel_rfl) (by kernel_rfl) rfl rfl ?_
          have hS : W2.drew.cell? ⟨g, cell', none⟩ = some vi ∧ W2.drew.cell? ⟨b, off + L.length, none⟩ = some (.int .i64 x) ∧ g < W2.drew.heap.size ∧ b < W2.drew.heap.size := ⟨hgi', hbx2, hgl', hb2l⟩
          refine goes_take' (i := 0) (d := some 72) (v := .slice (some ⟨g, 0, none⟩) (cell' + 1) gcap) (l' := #[true, false, false, false, false, false, false, false, false, false, false, false, false, false]) rfl (by kernel_rfl) (by kernel_rfl) (by kernel_rfl) (by kernel_rfl) rfl rfl (.inl ⟨rfl, fun w' hs => ?_⟩) hS ?_
          · obtain ⟨s0, s1, s2, s3⟩ := hs
            go_simp
          simp only [Act.put, List.setIfInBounds_toArray, List.set_cons_zero, List.set_cons_succ]
          refine goes_take' (i := 1) (d := some 73) (v := .int .i64 (cell' : Int)) (l' := #[true, true, false, false, false, false, false, false, false, false, false, false, false, false]) rfl (by kernel_rfl) (by kernel_rfl) (by kernel_rfl) (by kernel_rfl) rfl rfl (.inl ⟨rfl, fun w' hs => ?_⟩) hS ?_
          · obtain ⟨s0, s1, s2, s3⟩ := hs
            go_simp
          simp only [Act.put, List.setIfInBounds_toArray, List.set_cons_zero, List.set_cons_succ]
          refine goes_take' (i := 2) (d := some 74) (v := .slice (some ⟨g, 0, none⟩) (cell' + 1) gcap) (l' := #[true, true, true, false, false, false, false, false, false, false, false, false, false, false]) rfl (by kernel_rfl) (by kernel_rfl) (by kernel_rfl) (by kernel_rfl) rfl rfl (.inl ⟨rfl, fun w' hs => ?_⟩) hS ?_
          · obtain ⟨s0, s1, s2, s3⟩ := hs
            go_simp
          simp only [Act.put, List.setIfInBounds_toArray, List.set_cons_zero, List.set_cons_succ]
          refine goes_take' (i := 3) (d := some 75) (v := .int .i64 (cell' : Int)) (l' := #[true, true, true, true, false, false, false, false, false, false, false, false, false, false]) rfl (by kernel_rfl) (by kernel_rfl) (by kernel_rfl) (by kernel_rfl) rfl rfl (.inl ⟨rfl, fun w' hs => ?_⟩) hS ?_
          · obtain ⟨s0, s1, s2, s3⟩ := hs
            go_simp
          simp only [Act.put, List.setIfInBounds_toArray, List.set_cons_zero, List.set_cons_succ]
          refine goes_take' (i := 4) (d := some 76) (v := .pointer (some ⟨g, cell', none⟩)) (l' := #[true, true, true, true, true, false, false, false, false, false, false, false, false, false]) rfl (by kernel_rfl) (by kernel_rfl) (by kernel_rfl) (by kernel_rfl) rfl rfl (.inl ⟨rfl, fun w' hs => ?_⟩) hS ?_
          · obtain ⟨s0, s1, s2, s3⟩ := hs
            go_simp
            intro hh; exfalso; omega
          simp only [Act.put, List.setIfInBounds_toArray, List.set_cons_zero, List.set_cons_succ]
          refine goes_take' (i := 5) (d := some 77) (v := vi) (l' := #[true, true, true, true, true, true, false, false, false, false, false, false, false, false]) rfl (by kernel_rfl) (by kernel_rfl) (by kernel_rfl) (by kernel_rfl) rfl rfl (.inl ⟨rfl, fun w' hs => ?_⟩) hS ?_
          · obtain ⟨s0, s1, s2, s3⟩ := hs
            go_simp
          simp only [Act.put, List.setIfInBounds_toArray, List.set_cons_zero, List.set_cons_succ]
          refine goes_take' (i := 6) (d := some 78) (v := .slice (some ⟨b, off, none⟩) nums.length cap) (l' := #[true, true, true, true, true, true, true, false, false, false, false, false, false, false]) rfl (by kernel_rfl) (by kernel_rfl) (by kernel_rfl) (by kernel_rfl) rfl rfl (.inl ⟨rfl, fun w' hs => ?_⟩) hS ?_
          · obtain ⟨s0, s1, s2, s3⟩ := hs
            go_simp
          simp only [Act.put, List.setIfInBounds_toArray, List.set_cons_zero, List.set_cons_succ]
          refine goes_take' (i := 7) (d := some 79) (v := .int .i64 (L.length : Int)) (l' := #[true, true, true, true, true, true, true, true, false, false, false, false, false, false]) rfl (by kernel_rfl) (by kernel_rfl) (by kernel_rfl) (by kernel_rfl) rfl rfl (.inl ⟨rfl, fun w' hs => ?_⟩) hS ?_
          · obtain ⟨s0, s1, s2, s3⟩ := hs
            go_simp
          simp only [Act.put, List.setIfInBounds_toArray, List.set_cons_zero, List.set_cons_succ]
          refine goes_take' (i := 8) (d := some 80) (v := .pointer (some ⟨b, off + L.length, none⟩)) (l' := #[true, true, true, true, true, true, true, true, true, false, false, false, false, false]) rfl (by kernel_rfl) (by kernel_rfl) (by kernel_rfl) (by kernel_rfl) rfl rfl (.inl ⟨rfl, fun w' hs => ?_⟩) hS ?_
          · obtain ⟨s0, s1, s2, s3⟩ := hs
            go_simp
            intro hh; exfalso; omega
          simp only [Act.put, List.setIfInBounds_toArray, List.set_cons_zero, List.set_cons_succ]
          refine goes_take' (i := 9) (d := some 81) (v := .int .i64 x) (l' := #[true, true, true, true, true, true, true, true, true, true, false, false, false, false]) rfl (by kernel_rfl) (by kernel_rfl) (by kernel_rfl) (by kernel_rfl) rfl rfl (.inl ⟨rfl, fun w' hs => ?_⟩) hS ?_
          · obtain ⟨s0, s1, s2, s3⟩ := hs
            go_simp
          simp only [Act.put, List.setIfInBounds_toArray, List.set_cons_zero, List.set_cons_succ]
          have hs9 : (W2.alloc (.cells #[.int .i64 x] 3)).drew.cell? ⟨g, cell', none⟩ = some vi ∧ (W2.alloc (.cells #[.int .i64 x] 3)).drew.cell? ⟨b, off + L.length, none⟩ = some (.int .i64 x) ∧ g < (W2.alloc (.cells #[.int .i64 x] 3)).drew.heap.size ∧ b < (W2.alloc (.cells #[.int .i64 x] 3)).drew.heap.size :=
            ⟨(World.cell?_alloc_lt W2 _ ⟨g, cell', none⟩ hgl').trans hgi', (World.cell?_alloc_lt W2 _ ⟨b, off + L.length, none⟩ hb2l).trans hbx2, by simp; omega, by simp; omega⟩
          refine goes_one' (i := 10) (l' := #[true, true, true, true, true, true, true, true, true, true, true, false, false, false]) (by kernel_rfl) (step_value (d := some 82) (v := .slice (some ⟨W2.heap.size, 0, none⟩) 1 1) (w' := (W2.alloc (.cells #[.int .i64 x] 3)).drew) rfl rfl rfl (by go_simp)) rfl (.inr hs9) ?_
          simp only [Act.put, List.setIfInBounds_toArray, List.set_cons_zero, List.set_cons_succ]
          refine goes_one' (i := 11) (l' := #[true, true, true, true, true, true, true, true, true, true, true, true, false, false]) (by kernel_rfl) (step_value (d := some 83) (v := .slice p3 l3 c3) (w' := W3) rfl rfl rfl (by simp only [List.getElem_toArray, List.getElem_cons_succ, List.getElem_cons_zero, BigFrame.execOp_builtin, BigFrame.builtin_append, List.map_toArray, List.map_cons, List.map_nil]; exact hrunN.out)) rfl (.inr hs17) ?_
          simp only [Act.put, List.setIfInBounds_toArray, List.set_cons_zero, List.set_cons_succ]
          refine goes_take' (i := 12) (d := some 84) (v := .pointer (some ⟨g, cell', none⟩)) (l' := #[true, true, true, true, true, true, true, true, true, true, true, true, true, false]) rfl (by kernel_rfl) (by kernel_rfl) (by kernel_rfl) (by kernel_rfl) rfl rfl (.inl ⟨rfl, fun w' hs => ?_⟩) hs17 ?_
          · obtain ⟨s0, s1, s2, s3⟩ := hs
            go_simp
            intro hh; exfalso; omega
          simp only [Act.put, List.setIfInBounds_toArray, List.set_cons_zero, List.set_cons_succ]
          refine goes_one' (i := 13) (l' := #[true, true, true, true, true, true, true, true, true, true, true, true, true, true]) (by kernel_rfl) (step_skip (d := none) (w' := W3.setCell ⟨g, cell', none⟩ (.slice p3 l3 c3)) rfl rfl rfl (by go_simp)) rfl (.inl rfl) ?_
          refine goes_done (by kernel_rfl) ?_
          simp only [Act.put]
          obtain ⟨hc3, hcd, hprs, hlen', hX', hXB'⟩ := HG.out
          have hbel3 : Below w.heap.size w (W3.setCell ⟨g, cell', none⟩ (.slice p3 l3 c3)) := hbel2.trans (hkeep3.below hbel2.size fun i hi => by have := hi.1; omega)
          have hch3 : IsChain X' (W3.setCell ⟨g, cell', none⟩ (.slice p3 l3 c3)) (w1.heap.size + 1) w1.heap.size (L'.map some) := (hch'.keep ((Keep.refl (fun _ => False) W2).drew) fun _ _ f => f).keep hkeep3 fun i hi hn => hn.2 hi
          obtain ⟨cs3, hwant3⟩ : ∃ cs3, Want w1.heap.size X' (W3.setCell ⟨g, cell', none⟩ (.slice p3 l3 c3)) (.slice (some ⟨g, 0, none⟩) (cell' + 1) gcap) ((rowsOf (cell' + 1) (prs L)).modify cell' (· ++ [x])) cs3 := ⟨_, hwant3⟩
          have hrel : DeepRel w w1.heap.size nums n (.int .i64 (L.length : Int)) (.int .i64 (cell' : Int)) (.slice (some ⟨g, 0, none⟩) (cell' + 1) gcap) (.int .i64 ((L.length : Int) + 1)) (W3.setCell ⟨g, cell', none⟩ (.slice p3 l3 c3)) := by
            refine ⟨L', cell', X', cs3, by rw [hlen']; simp, rfl, by rw [hlen']; simp, by omega, hc5, hrow', hch3, hXB', ?_, hbel3⟩
            rw [hprs, rowsOf_snoc _ _ _ _ (by omega), Int.toNat_natCast]
            exact hwant3
          clear hch3 hbel3 hwant3 hch' hrow' hkeep3
          generalize W3.setCell ⟨g, cell', none⟩ (.slice p3 l3 c3) = W4 at hrel ⊢
          go_wp2_with fail
          go_roundw
          case rel => exact hrel
          case measure => simp only [intOf]; omega
        · obtain ⟨cell', hcd⟩ : ∃ cell' : Nat, cell' = cell := ⟨_, rfl⟩
          have hc1 : cell ≤ cell' := by omega
          have hc2 : cell' ≤ cell + 1 := by omega
          have hc3 : L = [] → cell' = 0 := fun h => by rw [hcd]; exact hrow.nil_ h
          have hc5 : cell' ≤ 5 := by omega
          have hWANT := hwant
          rw [← hcd] at hWANT
          have eC : (cell : Int) = (cell' : Int) := by omega
          try rw [eC]
          go_at_call 10
          refine (push_row hch hrow (by omega) cell' hc1 hc2 hc3 hc5 HX.out).mono ?_
          rintro e W2 ⟨rfl, L', X', hch', hrow', hprs, hlen', hkeep', hX'⟩
          have hXB' : ∀ i, X' i → w1.heap.size ≤ i := fun i hi => (hX' i hi).elim (hXB i) (fun h => by have := hbel.size; have := hXB _ hch.1; have := hch.lt _ hch.1; omega)
          have hwant2 := (hWANT.keep hkeep' hX').keep ((Keep.refl X' W2).drew) fun i hi => .inl hi
          have hbx2 : W2.cell? ⟨b, off + L.length, none⟩ = some (.int .i64 x) := (hkeep'.cell (p := ⟨b, off + L.length, none⟩) hb1l (fun hn => by have := hXB _ hn; dsimp only at this; omega)).trans hbx1
          have hb2l : b < W2.heap.size := by have := hkeep'.size; omega
          have hBr2 : w1.heap.size ≤ W2.drew.heap.size := by have := hkeep'.size; have := hbel.size; have := hXB _ hch.1; have := hch.lt _ hch.1; show _ ≤ W2.heap.size; omega
          have hbel2 : Below w.heap.size w W2.drew := by
            have h0 : Below w.heap.size w W2 := hbel.trans (hkeep'.below hbel.size fun i hi => by have := hXB i hi; omega)
            exact ⟨h0.os, h0.tape, h0.output, h0.size, h0.block⟩
          have hxs := rowsOf_get (cell' + 1) (prs L) cell' (by omega)
          obtain ⟨g, gcap, vi, v3, W3, hvw, hgl, hgi, hgf, hrun3, hgw, hgr3, hwant3, hkeep3⟩ := hwant2.put hch'.lt hBr2 cell' _ hxs (by
            have h1 := List.length_filter_le (fun p : Int × Int => p.1 == (cell' : Int)) (prs L)
            have h2 : (prs L).length = L.length := by simp [prs]
            rw [List.length_map]
            omega) x 22
          obtain ⟨p3, l3, c3, rfl⟩ := hwant3.slice_put (by rw [rowsOf_length]; omega)
          have hrunN : Hid ((do pure (Next.value (← Builtin.append_ #[22, 22] 22 #[vi, .slice (some ⟨W2.heap.size, 0, none⟩) 1 1])) : Sem Next).run Try.prog (W2.alloc (.cells #[.int .i64 x] 3)).drew = .ok (.value (.slice p3 l3 c3)) W3) := Lib.hid (by
            have hrun' : (Builtin.append_ #[22, 22] 22 #[vi, .slice (some ⟨W2.heap.size, 0, none⟩) 1 1]).run Try.prog (W2.alloc (.cells #[.int .i64 x] 3)).drew = .ok (.slice p3 l3 c3) W3 := hrun3
            simp only [Sem.run_bind, hrun', Result.andThen, Sem.run_pure])
          have hgl' : g < W2.heap.size := hgl
          have hgi' : W2.cell? ⟨g, cell', none⟩ = some vi := hgi
          have hs3 : W2.heap.size ≤ W3.heap.size := by have := hgr3.size; simp at this; have : W2.drew.heap.size = W2.heap.size := rfl; omega
          have hgi3 : W3.cell? ⟨g, cell', none⟩ = some vi := (World.cell?_of_block (w := W2) (a := ⟨g, cell', none⟩) hgw).trans hgi'
          have hgf3 : W3.frozen? ⟨g, cell', none⟩ = false := (World.frozen?_of_block (w := W2) (a := ⟨g, cell', none⟩) hgw).trans hgf
          have hbx4 := (hkeep3.cell (p := ⟨b, off + L.length, none⟩) hb2l (fun hn => by have := hn.1; dsimp only at this; omega)).trans hbx2
          have hgB : g ≠ b := by
            intro e
            have := (hWANT.own.lt g (by rw [hvw]; rfl)).1
            omega
          have hbx3 : W3.cell? ⟨b, off + L.length, none⟩ = some (.int .i64 x) := (World.cell?_of_block (w := W3) (a := ⟨b, off + L.length, none⟩) (Below.heap_setCell W3 ⟨g, cell', none⟩ (.slice p3 l3 c3) b (Ne.symm hgB))).symm.trans hbx4
          have hs17 : W3.cell? ⟨g, cell', none⟩ = some vi ∧ W3.cell? ⟨b, off + L.length, none⟩ = some (.int .i64 x) ∧ g < W3.heap.size ∧ b < W3.heap.size := ⟨hgi3, hbx3, by omega, by omega⟩
          have hgl3 : g < W3.heap.size := hs17.2.2.1
          clear hgi hgl hgf hbx4
          rw [rowsOf_length] at hvw
          subst hvw
          clear hWANT hwant2
          have HV := Lib.hid hrun3
          have HG := Lib.hid (And.intro hc3 (And.intro hcd (And.intro hprs (And.intro hlen' (And.intro hX' hXB')))))
          clear hrun3 hxs hc3 hcd hprs hlen' hX' hXB' eC hkeep' hgr3 hgw hc1 hc2
          go_wp2_with fail
          refine (wpIn_wide (n := 0)).1 ?_
          refine region_goes' (F := Fence.wide) (n := 0) (S := fun w' => w'.cell? ⟨g, cell', none⟩ = some vi ∧ w'.cell? ⟨b, off + L.length, none⟩ = some (.int .i64 x) ∧ g < w'.heap.size ∧ b < w'.heap.size) (last := 13) 14 (l := #[false, false, false, false, false, false, false, false, false, false, false, false, false, false]) (fun _ => trivial) (by kernel_rfl) (by kernel_rfl) rfl rfl ?_
          have hS : W2.drew.cell? ⟨g, cell', none⟩ = some vi ∧ W2.drew.cell? ⟨b, off + L.length, none⟩ = some (.int .i64 x) ∧ g < W2.drew.heap.size ∧ b < W2.drew.heap.size := ⟨hgi', hbx2, hgl', hb2l⟩
          refine goes_take' (i := 0) (d := some 72) (v := .slice (some ⟨g, 0, none⟩) (cell' + 1) gcap) (l' := #[true, false, false, false, false, false, false, false, false, false, false, false, false, false]) rfl (by kernel_rfl) (by kernel_rfl) (by kernel_rfl) (by kernel_rfl) rfl rfl (.inl ⟨rfl, fun w' hs => ?_⟩) hS ?_
          · obtain ⟨s0, s1, s2, s3⟩ := hs
            go_simp
          simp only [Act.put, List.setIfInBounds_toArray, List.set_cons_zero, List.set_cons_succ]
          refine goes_take' (i := 1) (d := some 73) (v := .int .i64 (cell' : Int)) (l' := #[true, true, false, false, false, false, false, false, false, false, false, false, false, false]) rfl (by kernel_rfl) (by kernel_rfl) (by kernel_rfl) (by kernel_rfl) rfl rfl (.inl ⟨rfl, fun w' hs => ?_⟩) hS ?_
          · obtain ⟨s0, s1, s2, s3⟩ := hs
            go_simp
          simp only [Act.put, List.setIfInBounds_toArray, List.set_cons_zero, List.set_cons_succ]
          refine goes_take' (i := 2) (d := some 74) (v := .slice (some ⟨g, 0, none⟩) (cell' + 1) gcap) (l' := #[true, true, true, false, false, false, false, false, false, false, false, false, false, false]) rfl (by kernel_rfl) (by kernel_rfl) (by kernel_rfl) (by kernel_rfl) rfl rfl (.inl ⟨rfl, fun w' hs => ?_⟩) hS ?_
          · obtain ⟨s0, s1, s2, s3⟩ := hs
            go_simp
          simp only [Act.put, List.setIfInBounds_toArray, List.set_cons_zero, List.set_cons_succ]
          refine goes_take' (i := 3) (d := some 75) (v := .int .i64 (cell' : Int)) (l' := #[true, true, true, true, false, false, false, false, false, false, false, false, false, false]) rfl (by kernel_rfl) (by kernel_rfl) (by kernel_rfl) (by kernel_rfl) rfl rfl (.inl ⟨rfl, fun w' hs => ?_⟩) hS ?_
          · obtain ⟨s0, s1, s2, s3⟩ := hs
            go_simp
          simp only [Act.put, List.setIfInBounds_toArray, List.set_cons_zero, List.set_cons_succ]
          refine goes_take' (i := 4) (d := some 76) (v := .pointer (some ⟨g, cell', none⟩)) (l' := #[true, true, true, true, true, false, false, false, false, false, false, false, false, false]) rfl (by kernel_rfl) (by kernel_rfl) (by kernel_rfl) (by kernel_rfl) rfl rfl (.inl ⟨rfl, fun w' hs => ?_⟩) hS ?_
          · obtain ⟨s0, s1, s2, s3⟩ := hs
            go_simp
            intro hh; exfalso; omega
          simp only [Act.put, List.setIfInBounds_toArray, List.set_cons_zero, List.set_cons_succ]
          refine goes_take' (i := 5) (d := some 77) (v := vi) (l' := #[true, true, true, true, true, true, false, false, false, false, false, false, false, false]) rfl (by kernel_rfl) (by kernel_rfl) (by kernel_rfl) (by kernel_rfl) rfl rfl (.inl ⟨rfl, fun w' hs => ?_⟩) hS ?_
          · obtain ⟨s0, s1, s2, s3⟩ := hs
            go_simp
          simp only [Act.put, List.setIfInBounds_toArray, List.set_cons_zero, List.set_cons_succ]
          refine goes_take' (i := 6) (d := some 78) (v := .slice (some ⟨b, off, none⟩) nums.length cap) (l' := #[true, true, true, true, true, true, true, false, false, false, false, false, false, false]) rfl (by kernel_rfl) (by kernel_rfl) (by kernel_rfl) (by kernel_rfl) rfl rfl (.inl ⟨rfl, fun w' hs => ?_⟩) hS ?_
          · obtain ⟨s0, s1, s2, s3⟩ := hs
            go_simp
          simp only [Act.put, List.setIfInBounds_toArray, List.set_cons_zero, List.set_cons_succ]
          refine goes_take' (i := 7) (d := some 79) (v := .int .i64 (L.length : Int)) (l' := #[true, true, true, true, true, true, true, true, false, false, false, false, false, false]) rfl (by kernel_rfl) (by kernel_rfl) (by kernel_rfl) (by kernel_rfl) rfl rfl (.inl ⟨rfl, fun w' hs => ?_⟩) hS ?_
          · obtain ⟨s0, s1, s2, s3⟩ := hs
            go_simp
          simp only [Act.put, List.setIfInBounds_toArray, List.set_cons_zero, List.set_cons_succ]
          refine goes_take' (i := 8) (d := some 80) (v := .pointer (some ⟨b, off + L.length, none⟩)) (l' := #[true, true, true, true, true, true, true, true, true, false, false, false, false, false]) rfl (by kernel_rfl) (by kernel_rfl) (by kernel_rfl) (by kernel_rfl) rfl rfl (.inl ⟨rfl, fun w' hs => ?_⟩) hS ?_
          · obtain ⟨s0, s1, s2, s3⟩ := hs
            go_simp
            intro hh; exfalso; omega
          simp only [Act.put, List.setIfInBounds_toArray, List.set_cons_zero, List.set_cons_succ]
          refine goes_take' (i := 9) (d := some 81) (v := .int .i64 x) (l' := #[true, true, true, true, true, true, true, true, true, true, false, false, false, false]) rfl (by kernel_rfl) (by kernel_rfl) (by kernel_rfl) (by kernel_rfl) rfl rfl (.inl ⟨rfl, fun w' hs => ?_⟩) hS ?_
          · obtain ⟨s0, s1, s2, s3⟩ := hs
            go_simp
          simp only [Act.put, List.setIfInBounds_toArray, List.set_cons_zero, List.set_cons_succ]
          have hs9 : (W2.alloc (.cells #[.int .i64 x] 3)).drew.cell? ⟨g, cell', none⟩ = some vi ∧ (W2.alloc (.cells #[.int .i64 x] 3)).drew.cell? ⟨b, off + L.length, none⟩ = some (.int .i64 x) ∧ g < (W2.alloc (.cells #[.int .i64 x] 3)).drew.heap.size ∧ b < (W2.alloc (.cells #[.int .i64 x] 3)).drew.heap.size :=
            ⟨(World.cell?_alloc_lt W2 _ ⟨g, cell', none⟩ hgl').trans hgi', (World.cell?_alloc_lt W2 _ ⟨b, off + L.length, none⟩ hb2l).trans hbx2, by simp; omega, by simp; omega⟩
          refine goes_one' (i := 10) (l' := #[true, true, true, true, true, true, true, true, true, true, true, false, false, false]) (by kernel_rfl) (step_value (d := some 82) (v := .slice (some ⟨W2.heap.size, 0, none⟩) 1 1) (w' := (W2.alloc (.cells #[.int .i64 x] 3)).drew) rfl rfl rfl (by go_simp)) rfl (.inr hs9) ?_
          simp only [Act.put, List.setIfInBounds_toArray, List.set_cons_zero, List.set_cons_succ]
          refine goes_one' (i := 11) (l' := #[true, true, true, true, true, true, true, true, true, true, true, true, false, false]) (by kernel_rfl) (step_value (d := some 83) (v := .slice p3 l3 c3) (w' := W3) rfl rfl rfl (by simp only [List.getElem_toArray, List.getElem_cons_succ, List.getElem_cons_zero, BigFrame.execOp_builtin, BigFrame.builtin_append, List.map_toArray, List.map_cons, List.map_nil]; exact hrunN.out)) rfl (.inr hs17) ?_
          simp only [Act.put, List.setIfInBounds_toArray, List.set_cons_zero, List.set_cons_succ]
          refine goes_take' (i := 12) (d := some 84) (v := .pointer (some ⟨g, cell', none⟩)) (l' := #[true, true, true, true, true, true, true, true, true, true, true, true, true, false]) rfl (by kernel_rfl) (by kernel_rfl) (by kernel_rfl) (by kernel_rfl) rfl rfl (.inl ⟨rfl, fun w' hs => ?_⟩) hs17 ?_
          · obtain ⟨s0, s1, s2, s3⟩ := hs
            go_simp
            intro hh; exfalso; omega
          simp only [Act.put, List.setIfInBounds_toArray, List.set_cons_zero, List.set_cons_succ]
          refine goes_one' (i := 13) (l' := #[true, true, true, true, true, true, true, true, true, true, true, true, true, true]) (by kernel_rfl) (step_skip (d := none) (w' := W3.setCell ⟨g, cell', none⟩ (.slice p3 l3 c3)) rfl rfl rfl (by go_simp)) rfl (.inl rfl) ?_
          refine goes_done (by kernel_rfl) ?_
          simp only [Act.put]
          obtain ⟨hc3, hcd, hprs, hlen', hX', hXB'⟩ := HG.out
          have hbel3 : Below w.heap.size w (W3.setCell ⟨g, cell', none⟩ (.slice p3 l3 c3)) := hbel2.trans (hkeep3.below hbel2.size fun i hi => by have := hi.1; omega)
          have hch3 : IsChain X' (W3.setCell ⟨g, cell', none⟩ (.slice p3 l3 c3)) (w1.heap.size + 1) w1.heap.size (L'.map some) := (hch'.keep ((Keep.refl (fun _ => False) W2).drew) fun _ _ f => f).keep hkeep3 fun i hi hn => hn.2 hi
          obtain ⟨cs3, hwant3⟩ : ∃ cs3, Want w1.heap.size X' (W3.setCell ⟨g, cell', none⟩ (.slice p3 l3 c3)) (.slice (some ⟨g, 0, none⟩) (cell' + 1) gcap) ((rowsOf (cell' + 1) (prs L)).modify cell' (· ++ [x])) cs3 := ⟨_, hwant3⟩
          have hrel : DeepRel w w1.heap.size nums n (.int .i64 (L.length : Int)) (.int .i64 (cell' : Int)) (.slice (some ⟨g, 0, none⟩) (cell' + 1) gcap) (.int .i64 ((L.length : Int) + 1)) (W3.setCell ⟨g, cell', none⟩ (.slice p3 l3 c3)) := by
            refine ⟨L', cell', X', cs3, by rw [hlen']; simp, rfl, by rw [hlen']; simp, by omega, hc5, hrow', hch3, hXB', ?_, hbel3⟩
            rw [hprs, rowsOf_snoc _ _ _ _ (by omega), Int.toNat_natCast]
            exact hwant3
          clear hch3 hbel3 hwant3 hch' hrow' hkeep3
          generalize W3.setCell ⟨g, cell', none⟩ (.slice p3 l3 c3) = W4 at hrel ⊢
          go_wp2_with fail
          go_roundw
          case rel => exact hrel
          case measure => simp only [intOf]; omega
        · obtain ⟨cell', hcd⟩ : ∃ cell' : Nat, cell' = cell := ⟨_, rfl⟩
          have hc1 : cell ≤ cell' := by omega
          have hc2 : cell' ≤ cell + 1 := by omega
          have hc3 : L = [] → cell' = 0 := fun h => by rw [hcd]; exact hrow.nil_ h
          have hc5 : cell' ≤ 5 := by omega
          have hWANT := hwant
          rw [← hcd] at hWANT
          have eC : (cell : Int) = (cell' : Int) := by omega
          try rw [eC]
          go_at_call 10
          refine (push_row hch hrow (by omega) cell' hc1 hc2 hc3 hc5 HX.out).mono ?_
          rintro e W2 ⟨rfl, L', X', hch', hrow', hprs, hlen', hkeep', hX'⟩
          have hXB' : ∀ i, X' i → w1.heap.size ≤ i := fun i hi => (hX' i hi).elim (hXB i) (fun h => by have := hbel.size; have := hXB _ hch.1; have := hch.lt _ hch.1; omega)
          have hwant2 := (hWANT.keep hkeep' hX').keep ((Keep.refl X' W2).drew) fun i hi => .inl hi
          have hbx2 : W2.cell? ⟨b, off + L.length, none⟩ = some (.int .i64 x) := (hkeep'.cell (p := ⟨b, off + L.length, none⟩) hb1l (fun hn => by have := hXB _ hn; dsimp only at this; omega)).trans hbx1
          have hb2l : b < W2.heap.size := by have := hkeep'.size; omega
          have hBr2 : w1.heap.size ≤ W2.drew.heap.size := by have := hkeep'.size; have := hbel.size; have := hXB _ hch.1; have := hch.lt _ hch.1; show _ ≤ W2.heap.size; omega
          have hbel2 : Below w.heap.size w W2.drew := by
            have h0 : Below w.heap.size w W2 := hbel.trans (hkeep'.below hbel.size fun i hi => by have := hXB i hi; omega)
            exact ⟨h0.os, h0.tape, h0.output, h0.size, h0.block⟩
          have hxs := rowsOf_get (cell' + 1) (prs L) cell' (by omega)
          obtain ⟨g, gcap, vi, v3, W3, hvw, hgl, hgi, hgf, hrun3, hgw, hgr3, hwant3, hkeep3⟩ := hwant2.put hch'.lt hBr2 cell' _ hxs (by
            have h1 := List.length_filter_le (fun p : Int × Int => p.1 == (cell' : Int)) (prs L)
            have h2 : (prs L).length = L.length := by simp [prs]
            rw [List.length_map]
            omega) x 22
          obtain ⟨p3, l3, c3, rfl⟩ := hwant3.slice_put (by rw [rowsOf_length]; omega)
          have hrunN : Hid ((do pure (Next.value (← Builtin.append_ #[22, 22] 22 #[vi, .slice (some ⟨W2.heap.size, 0, none⟩) 1 1])) : Sem Next).run Try.prog (W2.alloc (.cells #[.int .i64 x] 3)).drew = .ok (.value (.slice p3 l3 c3)) W3) := Lib.hid (by
            have hrun' : (Builtin.append_ #[22, 22] 22 #[vi, .slice (some ⟨W2.heap.size, 0, none⟩) 1 1]).run Try.prog (W2.alloc (.cells #[.int .i64 x] 3)).drew = .ok (.slice p3 l3 c3) W3 := hrun3
            simp only [Sem.run_bind, hrun', Result.andThen, Sem.run_pure])
          have hgl' : g < W2.heap.size := hgl
          have hgi' : W2.cell? ⟨g, cell', none⟩ = some vi := hgi
          have hs3 : W2.heap.size ≤ W3.heap.size := by have := hgr3.size; simp at this; have : W2.drew.heap.size = W2.heap.size := rfl; omega
          have hgi3 : W3.cell? ⟨g, cell', none⟩ = some vi := (World.cell?_of_block (w := W2) (a := ⟨g, cell', none⟩) hgw).trans hgi'
          have hgf3 : W3.frozen? ⟨g, cell', none⟩ = false := (World.frozen?_of_block (w := W2) (a := ⟨g, cell', none⟩) hgw).trans hgf
          have hbx4 := (hkeep3.cell (p := ⟨b, off + L.length, none⟩) hb2l (fun hn => by have := hn.1; dsimp only at this; omega)).trans hbx2
          have hgB : g ≠ b := by
            intro e
            have := (hWANT.own.lt g (by rw [hvw]; rfl)).1
            omega
          have hbx3 : W3.cell? ⟨b, off + L.length, none⟩ = some (.int .i64 x) := (World.cell?_of_block (w := W3) (a := ⟨b, off + L.length, none⟩) (Below.heap_setCell W3 ⟨g, cell', none⟩ (.slice p3 l3 c3) b (Ne.symm hgB))).symm.trans hbx4
          have hs17 : W3.cell? ⟨g, cell', none⟩ = some vi ∧ W3.cell? ⟨b, off + L.length, none⟩ = some (.int .i64 x) ∧ g < W3.heap.size ∧ b < W3.heap.size := ⟨hgi3, hbx3, by omega, by omega⟩
          have hgl3 : g < W3.heap.size := hs17.2.2.1
          clear hgi hgl hgf hbx4
          rw [rowsOf_length] at hvw
          subst hvw
          clear hWANT hwant2
          have HV := Lib.hid hrun3
          have HG := Lib.hid (And.intro hc3 (And.intro hcd (And.intro hprs (And.intro hlen' (And.intro hX' hXB')))))
          clear hrun3 hxs hc3 hcd hprs hlen' hX' hXB' eC hkeep' hgr3 hgw hc1 hc2
          go_wp2_with fail
          refine (wpIn_wide (n := 0)).1 ?_
          refine region_goes' (F := Fence.wide) (n := 0) (S := fun w' => w'.cell? ⟨g, cell', none⟩ = some vi ∧ w'.cell? ⟨b, off + L.length, none⟩ = some (.int .i64 x) ∧ g < w'.heap.size ∧ b < w'.heap.size) (last := 13) 14 (l := #[false, false, false, false, false, false, false, false, false, false, false, false, false, false]) (fun _ => trivial) (by kernel_rfl) (by kernel_rfl) rfl rfl ?_
          have hS : W2.drew.cell? ⟨g, cell', none⟩ = some vi ∧ W2.drew.cell? ⟨b, off + L.length, none⟩ = some (.int .i64 x) ∧ g < W2.drew.heap.size ∧ b < W2.drew.heap.size := ⟨hgi', hbx2, hgl', hb2l⟩
          refine goes_take' (i := 0) (d := some 72) (v := .slice (some ⟨g, 0, none⟩) (cell' + 1) gcap) (l' := #[true, false, false, false, false, false, false, false, false, false, false, false, false, false]) rfl (by kernel_rfl) (by kernel_rfl) (by kernel_rfl) (by kernel_rfl) rfl rfl (.inl ⟨rfl, fun w' hs => ?_⟩) hS ?_
          · obtain ⟨s0, s1, s2, s3⟩ := hs
            go_simp
          simp only [Act.put, List.setIfInBounds_toArray, List.set_cons_zero, List.set_cons_succ]
          refine goes_take' (i := 1) (d := some 73) (v := .int .i64 (cell' : Int)) (l' := #[true, true, false, false, false, false, false, false, false, false, false, false, false, false]) rfl (by kernel_rfl) (by kernel_rfl) (by kernel_rfl) (by kernel_rfl) rfl rfl (.inl ⟨rfl, fun w' hs => ?_⟩) hS ?_
          · obtain ⟨s0, s1, s2, s3⟩ := hs
            go_simp
          simp only [Act.put, List.setIfInBounds_toArray, List.set_cons_zero, List.set_cons_succ]
          refine goes_take' (i := 2) (d := some 74) (v := .slice (some ⟨g, 0, none⟩) (cell' + 1) gcap) (l' := #[true, true, true, false, false, false, false, false, false, false, false, false, false, false]) rfl (by kernel_rfl) (by kernel_rfl) (by kernel_rfl) (by kernel_rfl) rfl rfl (.inl ⟨rfl, fun w' hs => ?_⟩) hS ?_
          · obtain ⟨s0, s1, s2, s3⟩ := hs
            go_simp
          simp only [Act.put, List.setIfInBounds_toArray, List.set_cons_zero, List.set_cons_succ]
          refine goes_take' (i := 3) (d := some 75) (v := .int .i64 (cell' : Int)) (l' := #[true, true, true, true, false, false, false, false, false, false, false, false, false, false]) rfl (by kernel_rfl) (by kernel_rfl) (by kernel_rfl) (by kernel_rfl) rfl rfl (.inl ⟨rfl, fun w' hs => ?_⟩) hS ?_
          · obtain ⟨s0, s1, s2, s3⟩ := hs
            go_simp
          simp only [Act.put, List.setIfInBounds_toArray, List.set_cons_zero, List.set_cons_succ]
          refine goes_take' (i := 4) (d := some 76) (v := .pointer (some ⟨g, cell', none⟩)) (l' := #[true, true, true, true, true, false, false, false, false, false, false, false, false, false]) rfl (by kernel_rfl) (by kernel_rfl) (by kernel_rfl) (by kernel_rfl) rfl rfl (.inl ⟨rfl, fun w' hs => ?_⟩) hS ?_
          · obtain ⟨s0, s1, s2, s3⟩ := hs
            go_simp
            intro hh; exfalso; omega
          simp only [Act.put, List.setIfInBounds_toArray, List.set_cons_zero, List.set_cons_succ]
          refine goes_take' (i := 5) (d := some 77) (v := vi) (l' := #[true, true, true, true, true, true, false, false, false, false, false, false, false, false]) rfl (by kernel_rfl) (by kernel_rfl) (by kernel_rfl) (by kernel_rfl) rfl rfl (.inl ⟨rfl, fun w' hs => ?_⟩) hS ?_
          · obtain ⟨s0, s1, s2, s3⟩ := hs
            go_simp
          simp only [Act.put, List.setIfInBounds_toArray, List.set_cons_zero, List.set_cons_succ]
          refine goes_take' (i := 6) (d := some 78) (v := .slice (some ⟨b, off, none⟩) nums.length cap) (l' := #[true, true, true, true, true, true, true, false, false, false, false, false, false, false]) rfl (by kernel_rfl) (by kernel_rfl) (by kernel_rfl) (by kernel_rfl) rfl rfl (.inl ⟨rfl, fun w' hs => ?_⟩) hS ?_
          · obtain ⟨s0, s1, s2, s3⟩ := hs
            go_simp
          simp only [Act.put, List.setIfInBounds_toArray, List.set_cons_zero, List.set_cons_succ]
          refine goes_take' (i := 7) (d := some 79) (v := .int .i64 (L.length : Int)) (l' := #[true, true, true, true, true, true, true, true, false, false, false, false, false, false]) rfl (by kernel_rfl) (by kernel_rfl) (by kernel_rfl) (by kernel_rfl) rfl rfl (.inl ⟨rfl, fun w' hs => ?_⟩) hS ?_
          · obtain ⟨s0, s1, s2, s3⟩ := hs
            go_simp
          simp only [Act.put, List.setIfInBounds_toArray, List.set_cons_zero, List.set_cons_succ]
          refine goes_take' (i := 8) (d := some 80) (v := .pointer (some ⟨b, off + L.length, none⟩)) (l' := #[true, true, true, true, true, true, true, true, true, false, false, false, false, false]) rfl (by kernel_rfl) (by kernel_rfl) (by kernel_rfl) (by kernel_rfl) rfl rfl (.inl ⟨rfl, fun w' hs => ?_⟩) hS ?_
          · obtain ⟨s0, s1, s2, s3⟩ := hs
            go_simp
            intro hh; exfalso; omega
          simp only [Act.put, List.setIfInBounds_toArray, List.set_cons_zero, List.set_cons_succ]
          refine goes_take' (i := 9) (d := some 81) (v := .int .i64 x) (l' := #[true, true, true, true, true, true, true, true, true, true, false, false, false, false]) rfl (by kernel_rfl) (by kernel_rfl) (by kernel_rfl) (by kernel_rfl) rfl rfl (.inl ⟨rfl, fun w' hs => ?_⟩) hS ?_
          · obtain ⟨s0, s1, s2, s3⟩ := hs
            go_simp
          simp only [Act.put, List.setIfInBounds_toArray, List.set_cons_zero, List.set_cons_succ]
          have hs9 : (W2.alloc (.cells #[.int .i64 x] 3)).drew.cell? ⟨g, cell', none⟩ = some vi ∧ (W2.alloc (.cells #[.int .i64 x] 3)).drew.cell? ⟨b, off + L.length, none⟩ = some (.int .i64 x) ∧ g < (W2.alloc (.cells #[.int .i64 x] 3)).drew.heap.size ∧ b < (W2.alloc (.cells #[.int .i64 x] 3)).drew.heap.size :=
            ⟨(World.cell?_alloc_lt W2 _ ⟨g, cell', none⟩ hgl').trans hgi', (World.cell?_alloc_lt W2 _ ⟨b, off + L.length, none⟩ hb2l).trans hbx2, by simp; omega, by simp; omega⟩
          refine goes_one' (i := 10) (l' := #[true, true, true, true, true, true, true, true, true, true, true, false, false, false]) (by kernel_rfl) (step_value (d := some 82) (v := .slice (some ⟨W2.heap.size, 0, none⟩) 1 1) (w' := (W2.alloc (.cells #[.int .i64 x] 3)).drew) rfl rfl rfl (by go_simp)) rfl (.inr hs9) ?_
          simp only [Act.put, List.setIfInBounds_toArray, List.set_cons_zero, List.set_cons_succ]
          refine goes_one' (i := 11) (l' := #[true, true, true, true, true, true, true, true, true, true, true, true, false, false]) (by kernel_rfl) (step_value (d := some 83) (v := .slice p3 l3 c3) (w' := W3) rfl rfl rfl (by simp only [List.getElem_toArray, List.getElem_cons_succ, List.getElem_cons_zero, BigFrame.execOp_builtin, BigFrame.builtin_append, List.map_toArray, List.map_cons, List.map_nil]; exact hrunN.out)) rfl (.inr hs17) ?_
          simp only [Act.put, List.setIfInBounds_toArray, List.set_cons_zero, List.set_cons_succ]
          refine goes_take' (i := 12) (d := some 84) (v := .pointer (some ⟨g, cell', none⟩)) (l' := #[true, true, true, true, true, true, true, true, true, true, true, true, true, false]) rfl (by kernel_rfl) (by kernel_rfl) (by kernel_rfl) (by kernel_rfl) rfl rfl (.inl ⟨rfl, fun w' hs => ?_⟩) hs17 ?_
          · obtain ⟨s0, s1, s2, s3⟩ := hs
            go_simp
            intro hh; exfalso; omega
          simp only [Act.put, List.setIfInBounds_toArray, List.set_cons_zero, List.set_cons_succ]
          refine goes_one' (i := 13) (l' := #[true, true, true, true, true, true, true, true, true, true, true, true, true, true]) (by kernel_rfl) (step_skip (d := none) (w' := W3.setCell ⟨g, cell', none⟩ (.slice p3 l3 c3)) rfl rfl rfl (by go_simp)) rfl (.inl rfl) ?_
          refine goes_done (by kernel_rfl) ?_
          simp only [Act.put]
          obtain ⟨hc3, hcd, hprs, hlen', hX', hXB'⟩ := HG.out
          have hbel3 : Below w.heap.size w (W3.setCell ⟨g, cell', none⟩ (.slice p3 l3 c3)) := hbel2.trans (hkeep3.below hbel2.size fun i hi => by have := hi.1; omega)
          have hch3 : IsChain X' (W3.setCell ⟨g, cell', none⟩ (.slice p3 l3 c3)) (w1.heap.size + 1) w1.heap.size (L'.map some) := (hch'.keep ((Keep.refl (fun _ => False) W2).drew) fun _ _ f => f).keep hkeep3 fun i hi hn => hn.2 hi
          obtain ⟨cs3, hwant3⟩ : ∃ cs3, Want w1.heap.size X' (W3.setCell ⟨g, cell', none⟩ (.slice p3 l3 c3)) (.slice (some ⟨g, 0, none⟩) (cell' + 1) gcap) ((rowsOf (cell' + 1) (prs L)).modify cell' (· ++ [x])) cs3 := ⟨_, hwant3⟩
          have hrel : DeepRel w w1.heap.size nums n (.int .i64 (L.length : Int)) (.int .i64 (cell' : Int)) (.slice (some ⟨g, 0, none⟩) (cell' + 1) gcap) (.int .i64 ((L.length : Int) + 1)) (W3.setCell ⟨g, cell', none⟩ (.slice p3 l3 c3)) := by
            refine ⟨L', cell', X', cs3, by rw [hlen']; simp, rfl, by rw [hlen']; simp, by omega, hc5, hrow', hch3, hXB', ?_, hbel3⟩
            rw [hprs, rowsOf_snoc _ _ _ _ (by omega), Int.toNat_natCast]
            exact hwant3
          clear hch3 hbel3 hwant3 hch' hrow' hkeep3
          generalize W3.setCell ⟨g, cell', none⟩ (.slice p3 l3 c3) = W4 at hrel ⊢
          go_wp2_with fail
          go_roundw
          case rel => exact hrel
          case measure => simp only [intOf]; omega
        · obtain ⟨cell', hcd⟩ : ∃ cell' : Nat, cell' = cell := ⟨_, rfl⟩
          have hc1 : cell ≤ cell' := by omega
          have hc2 : cell' ≤ cell + 1 := by omega
          have hc3 : L = [] → cell' = 0 := fun h => by rw [hcd]; exact hrow.nil_ h
          have hc5 : cell' ≤ 5 := by omega
          have hWANT := hwant
          rw [← hcd] at hWANT
          have eC : (cell : Int) = (cell' : Int) := by omega
          try rw [eC]
          go_at_call 10
          refine (push_row hch hrow (by omega) cell' hc1 hc2 hc3 hc5 HX.out).mono ?_
          rintro e W2 ⟨rfl, L', X', hch', hrow', hprs, hlen', hkeep', hX'⟩
          have hXB' : ∀ i, X' i → w1.heap.size ≤ i := fun i hi => (hX' i hi).elim (hXB i) (fun h => by have := hbel.size; have := hXB _ hch.1; have := hch.lt _ hch.1; omega)
          have hwant2 := (hWANT.keep hkeep' hX').keep ((Keep.refl X' W2).drew) fun i hi => .inl hi
          have hbx2 : W2.cell? ⟨b, off + L.length, none⟩ = some (.int .i64 x) := (hkeep'.cell (p := ⟨b, off + L.length, none⟩) hb1l (fun hn => by have := hXB _ hn; dsimp only at this; omega)).trans hbx1
          have hb2l : b < W2.heap.size := by have := hkeep'.size; omega
          have hBr2 : w1.heap.size ≤ W2.drew.heap.size := by have := hkeep'.size; have := hbel.size; have := hXB _ hch.1; have := hch.lt _ hch.1; show _ ≤ W2.heap.size; omega
          have hbel2 : Below w.heap.size w W2.drew := by
            have h0 : Below w.heap.size w W2 := hbel.trans (hkeep'.below hbel.size fun i hi => by have := hXB i hi; omega)
            exact ⟨h0.os, h0.tape, h0.output, h0.size, h0.block⟩
          have hxs := rowsOf_get (cell' + 1) (prs L) cell' (by omega)
          obtain ⟨g, gcap, vi, v3, W3, hvw, hgl, hgi, hgf, hrun3, hgw, hgr3, hwant3, hkeep3⟩ := hwant2.put hch'.lt hBr2 cell' _ hxs (by
            have h1 := List.length_filter_le (fun p : Int × Int => p.1 == (cell' : Int)) (prs L)
            have h2 : (prs L).length = L.length := by simp [prs]
            rw [List.length_map]
            omega) x 22
          obtain ⟨p3, l3, c3, rfl⟩ := hwant3.slice_put (by rw [rowsOf_length]; omega)
          have hrunN : Hid ((do pure (Next.value (← Builtin.append_ #[22, 22] 22 #[vi, .slice (some ⟨W2.heap.size, 0, none⟩) 1 1])) : Sem Next).run Try.prog (W2.alloc (.cells #[.int .i64 x] 3)).drew = .ok (.value (.slice p3 l3 c3)) W3) := Lib.hid (by
            have hrun' : (Builtin.append_ #[22, 22] 22 #[vi, .slice (some ⟨W2.heap.size, 0, none⟩) 1 1]).run Try.prog (W2.alloc (.cells #[.int .i64 x] 3)).drew = .ok (.slice p3 l3 c3) W3 := hrun3
            simp only [Sem.run_bind, hrun', Result.andThen, Sem.run_pure])
          have hgl' : g < W2.heap.size := hgl
          have hgi' : W2.cell? ⟨g, cell', none⟩ = some vi := hgi
          have hs3 : W2.heap.size ≤ W3.heap.size := by have := hgr3.size; simp at this; have : W2.drew.heap.size = W2.heap.size := rfl; omega
          have hgi3 : W3.cell? ⟨g, cell', none⟩ = some vi := (World.cell?_of_block (w := W2) (a := ⟨g, cell', none⟩) hgw).trans hgi'
          have hgf3 : W3.frozen? ⟨g, cell', none⟩ = false := (World.frozen?_of_block (w := W2) (a := ⟨g, cell', none⟩) hgw).trans hgf
          have hbx4 := (hkeep3.cell (p := ⟨b, off + L.length, none⟩) hb2l (fun hn => by have := hn.1; dsimp only at this; omega)).trans hbx2
          have hgB : g ≠ b := by
            intro e
            have := (hWANT.own.lt g (by rw [hvw]; rfl)).1
            omega
          have hbx3 : W3.cell? ⟨b, off + L.length, none⟩ = some (.int .i64 x) := (World.cell?_of_block (w := W3) (a := ⟨b, off + L.length, none⟩) (Below.heap_setCell W3 ⟨g, cell', none⟩ (.slice p3 l3 c3) b (Ne.symm hgB))).symm.trans hbx4
          have hs17 : W3.cell? ⟨g, cell', none⟩ = some vi ∧ W3.cell? ⟨b, off + L.length, none⟩ = some (.int .i64 x) ∧ g < W3.heap.size ∧ b < W3.heap.size := ⟨hgi3, hbx3, by omega, by omega⟩
          have hgl3 : g < W3.heap.size := hs17.2.2.1
          clear hgi hgl hgf hbx4
          rw [rowsOf_length] at hvw
          subst hvw
          clear hWANT hwant2
          have HV := Lib.hid hrun3
          have HG := Lib.hid (And.intro hc3 (And.intro hcd (And.intro hprs (And.intro hlen' (And.intro hX' hXB')))))
          clear hrun3 hxs hc3 hcd hprs hlen' hX' hXB' eC hkeep' hgr3 hgw hc1 hc2
          go_wp2_with fail
          refine (wpIn_wide (n := 0)).1 ?_
          refine region_goes' (F := Fence.wide) (n := 0) (S := fun w' => w'.cell? ⟨g, cell', none⟩ = some vi ∧ w'.cell? ⟨b, off + L.length, none⟩ = some (.int .i64 x) ∧ g < w'.heap.size ∧ b < w'.heap.size) (last := 13) 14 (l := #[false, false, false, false, false, false, false, false, false, false, false, false, false, false]) (fun _ => trivial) (by kernel_rfl) (by kernel_rfl) rfl rfl ?_
          have hS : W2.drew.cell? ⟨g, cell', none⟩ = some vi ∧ W2.drew.cell? ⟨b, off + L.length, none⟩ = some (.int .i64 x) ∧ g < W2.drew.heap.size ∧ b < W2.drew.heap.size := ⟨hgi', hbx2, hgl', hb2l⟩
          refine goes_take' (i := 0) (d := some 72) (v := .slice (some ⟨g, 0, none⟩) (cell' + 1) gcap) (l' := #[true, false, false, false, false, false, false, false, false, false, false, false, false, false]) rfl (by kernel_rfl) (by kernel_rfl) (by kernel_rfl) (by kernel_rfl) rfl rfl (.inl ⟨rfl, fun w' hs => ?_⟩) hS ?_
          · obtain ⟨s0, s1, s2, s3⟩ := hs
            go_simp
          simp only [Act.put, List.setIfInBounds_toArray, List.set_cons_zero, List.set_cons_succ]
          refine goes_take' (i := 1) (d := some 73) (v := .int .i64 (cell' : Int)) (l' := #[true, true, false, false, false, false, false, false, false, false, false, false, false, false]) rfl (by kernel_rfl) (by kernel_rfl) (by kernel_rfl) (by kernel_rfl) rfl rfl (.inl ⟨rfl, fun w' hs => ?_⟩) hS ?_
          · obtain ⟨s0, s1, s2, s3⟩ := hs
            go_simp
          simp only [Act.put, List.setIfInBounds_toArray, List.set_cons_zero, List.set_cons_succ]
          refine goes_take' (i := 2) (d := some 74) (v := .slice (some ⟨g, 0, none⟩) (cell' + 1) gcap) (l' := #[true, true, true, false, false, false, false, false, false, false, false, false, false, false]) rfl (by kernel_rfl) (by kernel_rfl) (by kernel_rfl) (by kernel_rfl) rfl rfl (.inl ⟨rfl, fun w' hs => ?_⟩) hS ?_
          · obtain ⟨s0, s1, s2, s3⟩ := hs
            go_simp
          simp only [Act.put, List.setIfInBounds_toArray, List.set_cons_zero, List.set_cons_succ]
          refine goes_take' (i := 3) (d := some 75) (v := .int .i64 (cell' : Int)) (l' := #[true, true, true, true, false, false, false, false, false, false, false, false, false, false]) rfl (by kernel_rfl) (by kernel_rfl) (by kernel_rfl) (by kernel_rfl) rfl rfl (.inl ⟨rfl, fun w' hs => ?_⟩) hS ?_
          · obtain ⟨s0, s1, s2, s3⟩ := hs
            go_simp
          simp only [Act.put, List.setIfInBounds_toArray, List.set_cons_zero, List.set_cons_succ]
          refine goes_take' (i := 4) (d := some 76) (v := .pointer (some ⟨g, cell', none⟩)) (l' := #[true, true, true, true, true, false, false, false, false, false, false, false, false, false]) rfl (by kernel_rfl) (by kernel_rfl) (by kernel_rfl) (by kernel_rfl) rfl rfl (.inl ⟨rfl, fun w' hs => ?_⟩) hS ?_
          · obtain ⟨s0, s1, s2, s3⟩ := hs
            go_simp
            intro hh; exfalso; omega
          simp only [Act.put, List.setIfInBounds_toArray, List.set_cons_zero, List.set_cons_succ]
          refine goes_take' (i := 5) (d := some 77) (v := vi) (l' := #[true, true, true, true, true, true, false, false, false, false, false, false, false, false]) rfl (by kernel_rfl) (by kernel_rfl) (by kernel_rfl) (by kernel_rfl) rfl rfl (.inl ⟨rfl, fun w' hs => ?_⟩) hS ?_
          · obtain ⟨s0, s1, s2, s3⟩ := hs
            go_simp
          simp only [Act.put, List.setIfInBounds_toArray, List.set_cons_zero, List.set_cons_succ]
          refine goes_take' (i := 6) (d := some 78) (v := .slice (some ⟨b, off, none⟩) nums.length cap) (l' := #[true, true, true, true, true, true, true, false, false, false, false, false, false, false]) rfl (by kernel_rfl) (by kernel_rfl) (by kernel_rfl) (by kernel_rfl) rfl rfl (.inl ⟨rfl, fun w' hs => ?_⟩) hS ?_
          · obtain ⟨s0, s1, s2, s3⟩ := hs
            go_simp
          simp only [Act.put, List.setIfInBounds_toArray, List.set_cons_zero, List.set_cons_succ]
          refine goes_take' (i := 7) (d := some 79) (v := .int .i64 (L.length : Int)) (l' := #[true, true, true, true, true, true, true, true, false, false, false, false, false, false]) rfl (by kernel_rfl) (by kernel_rfl) (by kernel_rfl) (by kernel_rfl) rfl rfl (.inl ⟨rfl, fun w' hs => ?_⟩) hS ?_
          · obtain ⟨s0, s1, s2, s3⟩ := hs
            go_simp
          simp only [Act.put, List.setIfInBounds_toArray, List.set_cons_zero, List.set_cons_succ]
          refine goes_take' (i := 8) (d := some 80) (v := .pointer (some ⟨b, off + L.length, none⟩)) (l' := #[true, true, true, true, true, true, true, true, true, false, false, false, false, false]) rfl (by kernel_rfl) (by kernel_rfl) (by kernel_rfl) (by kernel_rfl) rfl rfl (.inl ⟨rfl, fun w' hs => ?_⟩) hS ?_
          · obtain ⟨s0, s1, s2, s3⟩ := hs
            go_simp
            intro hh; exfalso; omega
          simp only [Act.put, List.setIfInBounds_toArray, List.set_cons_zero, List.set_cons_succ]
          refine goes_take' (i := 9) (d := some 81) (v := .int .i64 x) (l' := #[true, true, true, true, true, true, true, true, true, true, false, false, false, false]) rfl (by kernel_rfl) (by kernel_rfl) (by kernel_rfl) (by kernel_rfl) rfl rfl (.inl ⟨rfl, fun w' hs => ?_⟩) hS ?_
          · obtain ⟨s0, s1, s2, s3⟩ := hs
            go_simp
          simp only [Act.put, List.setIfInBounds_toArray, List.set_cons_zero, List.set_cons_succ]
          have hs9 : (W2.alloc (.cells #[.int .i64 x] 3)).drew.cell? ⟨g, cell', none⟩ = some vi ∧ (W2.alloc (.cells #[.int .i64 x] 3)).drew.cell? ⟨b, off + L.length, none⟩ = some (.int .i64 x) ∧ g < (W2.alloc (.cells #[.int .i64 x] 3)).drew.heap.size ∧ b < (W2.alloc (.cells #[.int .i64 x] 3)).drew.heap.size :=
            ⟨(World.cell?_alloc_lt W2 _ ⟨g, cell', none⟩ hgl').trans hgi', (World.cell?_alloc_lt W2 _ ⟨b, off + L.length, none⟩ hb2l).trans hbx2, by simp; omega, by simp; omega⟩
          refine goes_one' (i := 10) (l' := #[true, true, true, true, true, true, true, true, true, true, true, false, false, false]) (by kernel_rfl) (step_value (d := some 82) (v := .slice (some ⟨W2.heap.size, 0, none⟩) 1 1) (w' := (W2.alloc (.cells #[.int .i64 x] 3)).drew) rfl rfl rfl (by go_simp)) rfl (.inr hs9) ?_
          simp only [Act.put, List.setIfInBounds_toArray, List.set_cons_zero, List.set_cons_succ]
          refine goes_one' (i := 11) (l' := #[true, true, true, true, true, true, true, true, true, true, true, true, false, false]) (by kernel_rfl) (step_value (d := some 83) (v := .slice p3 l3 c3) (w' := W3) rfl rfl rfl (by simp only [List.getElem_toArray, List.getElem_cons_succ, List.getElem_cons_zero, BigFrame.execOp_builtin, BigFrame.builtin_append, List.map_toArray, List.map_cons, List.map_nil]; exact hrunN.out)) rfl (.inr hs17) ?_
          simp only [Act.put, List.setIfInBounds_toArray, List.set_cons_zero, List.set_cons_succ]
          refine goes_take' (i := 12) (d := some 84) (v := .pointer (some ⟨g, cell', none⟩)) (l' := #[true, true, true, true, true, true, true, true, true, true, true, true, true, false]) rfl (by kernel_rfl) (by kernel_rfl) (by kernel_rfl) (by kernel_rfl) rfl rfl (.inl ⟨rfl, fun w' hs => ?_⟩) hs17 ?_
          · obtain ⟨s0, s1, s2, s3⟩ := hs
            go_simp
            intro hh; exfalso; omega
          simp only [Act.put, List.setIfInBounds_toArray, List.set_cons_zero, List.set_cons_succ]
          refine goes_one' (i := 13) (l' := #[true, true, true, true, true, true, true, true, true, true, true, true, true, true]) (by kernel_rfl) (step_skip (d := none) (w' := W3.setCell ⟨g, cell', none⟩ (.slice p3 l3 c3)) rfl rfl rfl (by go_simp)) rfl (.inl rfl) ?_
          refine goes_done (by kernel_rfl) ?_
          simp only [Act.put]
          obtain ⟨hc3, hcd, hprs, hlen', hX', hXB'⟩ := HG.out
          have hbel3 : Below w.heap.size w (W3.setCell ⟨g, cell', none⟩ (.slice p3 l3 c3)) := hbel2.trans (hkeep3.below hbel2.size fun i hi => by have := hi.1; omega)
          have hch3 : IsChain X' (W3.setCell ⟨g, cell', none⟩ (.slice p3 l3 c3)) (w1.heap.size + 1) w1.heap.size (L'.map some) := (hch'.keep ((Keep.refl (fun _ => False) W2).drew) fun _ _ f => f).keep hkeep3 fun i hi hn => hn.2 hi
          obtain ⟨cs3, hwant3⟩ : ∃ cs3, Want w1.heap.size X' (W3.setCell ⟨g, cell', none⟩ (.slice p3 l3 c3)) (.slice (some ⟨g, 0, none⟩) (cell' + 1) gcap) ((rowsOf (cell' + 1) (prs L)).modify cell' (· ++ [x])) cs3 := ⟨_, hwant3⟩
          have hrel : DeepRel w w1.heap.size nums n (.int .i64 (L.length : Int)) (.int .i64 (cell' : Int)) (.slice (some ⟨g, 0, none⟩) (cell' + 1) gcap) (.int .i64 ((L.length : Int) + 1)) (W3.setCell ⟨g, cell', none⟩ (.slice p3 l3 c3)) := by
            refine ⟨L', cell', X', cs3, by rw [hlen']; simp, rfl, by rw [hlen']; simp, by omega, hc5, hrow', hch3, hXB', ?_, hbel3⟩
            rw [hprs, rowsOf_snoc _ _ _ _ (by omega), Int.toNat_natCast]
            exact hwant3
          clear hch3 hbel3 hwant3 hch' hrow' hkeep3
          generalize W3.setCell ⟨g, cell', none⟩ (.slice p3 l3 c3) = W4 at hrel ⊢
          go_wp2_with fail
          go_roundw
          case rel => exact hrel
          case measure => simp only [intOf]; omega
      · obtain ⟨N, hN⟩ : ∃ N, L.length = N := ⟨_, rfl⟩
        have hnN : n = N := by omega
        subst hnN
        rw [hN]
        by_cases h0 : n = 0
        · subst h0
          clear hch hwant hrow
          go_wp2_with fail
          go_ret
          exact ⟨rfl, hbel⟩
        · have hpos : 0 < n := by omega
          obtain ⟨wa, rfl⟩ : ∃ wa, wa = wr := ⟨_, rfl⟩
          have hst : DeepRel2 w1.heap.size X (prs L) cell n wa (.int .i64 0) wa := ⟨L, 0, rfl, by omega, hN, hch, hrow.rowJ, Keep.refl _ _⟩
          have hpl : (prs L).length ≤ 1000 := by simp [prs]; omega
          have hwB2 : w1.heap.size ≤ wa.heap.size := by have := (hch.lt _ hch.1); have := hXB _ hch.1; omega
          clear hch hrow hlt hLn
          have hne : ((n : Int) == 0) = false := by simp; omega
          go_wp2_with fail
          go_loopw [14] (fun vi w5 => DeepRel2 w1.heap.size X (prs L) cell n wa vi w5) (fun vi _ => n - (intOf vi).toNat)
          case atStart => exact hst
          case round =>
            clear hst
            obtain ⟨L2, j, rfl, hj, hN2, hch, hrj, hkp⟩ := hrel
            by_cases hlt : j + 1 < n
            · have hlt' : (j : Int) < (n : Int) - 1 := by omega
              go_wp2_with fail
              go_at_call 11
              refine (drop_row hch hrj (by omega) (by omega)).mono ?_
              rintro e w6 ⟨p', cap', rfl, L3, hch3, hrj3, hN3, hkp3⟩
              have hrel : DeepRel2 w1.heap.size X (prs L) cell n wa (.int .i64 ((j : Int) + 1)) w6 := ⟨L3, j + 1, by simp, by omega, by omega, hch3, hrj3, hkp.trans hkp3⟩
              clear hch3 hrj3 hN3 hkp3 hch hrj hN2 hkp
              go_wp2_with fail
              go_roundw
              case rel => exact hrel
              case measure => simp only [intOf]; omega
            · have hlt' : ¬ (j : Int) < (n : Int) - 1 := by omega
              have hw5 := hwant.keep hkp fun i hi => .inl hi
              go_wp2_with fail
              go_at_call 13
              refine (sets_rowN hN2 hch hrj (by omega) hpos (by omega)).mono ?_
              rintro e w6 ⟨vs, rfl, hvs, hb6⟩
              go_wp2_with fail
              go_at_call 12
              refine (cmp_same hvs (hw5.rows.below hb6) (by rw [rowsOf_length]; omega) (fun xs hxs => by have := rowsOf_le _ _ xs hxs; omega)).mono ?_
              rintro e w7 ⟨rfl, hb7⟩
              have hch7 := (hch.below hb6).below hb7
              have hbel7 : Below w.heap.size w w7 := by
                have h1 := hbel.trans (hkp.below hbel.size fun i hi => by have := hXB i hi; omega)
                have h2 := h1.trans (hb6.mono h1.size)
                exact h2.trans (hb7.mono h2.size)
              clear hch hvs hb6 hb7 hw5
              go_wp2_with fail
              go_at_call 14
              refine (live_rowN hN2 hch7).mono ?_
              rintro e w8 ⟨rfl, rfl⟩
              go_wp2_with fail
              go_at_call 11
              refine (drop_allN hN2 hch7 hrj (by omega) hpos (by omega)).mono ?_
              rintro e w8 ⟨g, cap8, M8, rfl, hg7, hg8, hcells, hch8, hcn8, hkp8⟩
              have hbel8 : Below w.heap.size w w8 := hbel7.trans (hkp8.below hbel7.size fun i hi => by have := hXB i hi; omega)
              have HC := Lib.hid hcells
              clear hch7 hcells hkp8 hbel7 hrj hkp hwant
              go_wp2_with fail
              go_loopw [21] (fun vk w9 => ∃ k : Nat, k ≤ n ∧ vk = .int .i64 (k : Int) ∧ w9 = w8) (fun vk _ => n - (intOf vk).toNat)
              case atStart => exact ⟨0, by omega, rfl, rfl⟩
              case round =>
                obtain ⟨k, hk, rfl, rfl⟩ := hrel
                by_cases hlt3 : k < n
                · have hck := HC.out k hlt3
                  rw [Nat.mul_comm] at hck
                  go_wp2_with fail
                  go_roundw
                  case rel => exact ⟨k + 1, by omega, by simp, by trivial⟩
                  case measure => simp only [intOf]; omega
                · go_wp2_with fail
                  go_at_call 14
                  refine (live_none hch8 hcn8).mono ?_
                  rintro e w9 ⟨rfl, rfl⟩
                  go_wp2_with fail
                  go_ret
                  exact ⟨rfl, hbel8⟩

end Go.Proofs.Ythflfafenehofaa
