/-
  The walk of the document's Sets. Printed by wip/mkm8.py.
-/
import Derived.Test.YthflfafenehofaaM7
namespace Go.Proofs.Ythflfafenehofaa
open Go.RowKit Go.Shelf

attribute [local go_sem] Oper.semAt_some

theorem Want.nil (B : Nat) (W : World) : Want B (fun _ => False) W (.slice none 0 0) [] [] :=
  ⟨World.ownsRow_nil _ _ _ _, fun _ _ h => h, fun i xs h => by simp at h, fun i vi b h => by simp at h, fun i j vi vj b h => by simp at h⟩
def prR (ys : List RN) : List (Int × Int) := ys.map fun r => (r.cell, r.num)
/-- How many rows there are. -/
def mR (ys : List RN) (i : Nat) : Nat := if i = 0 then 0 else (match ys[i - 1]? with | some r => (r.cell + 1).toNat | none => 0)
/-- Cells rise. -/
def Rise (ys : List RN) : Prop := (∀ (i : Nat) (r : RN), ys[i]? = some r → 0 ≤ r.cell ∧ r.cell ≤ 5) ∧ ∀ (i j : Nat) (a b : RN), i ≤ j → ys[i]? = some a → ys[j]? = some b → a.cell ≤ b.cell
theorem Rise.lt {ys : List RN} (h : Rise ys) {i : Nat} (hil : i ≤ ys.length) : ∀ p ∈ prR (ys.take i), p.1 < (mR ys i : Int) := fun p hp => by
  obtain ⟨r, hr, rfl⟩ := List.mem_map.1 hp
  obtain ⟨j, hj⟩ := List.getElem?_of_mem hr
  rw [List.getElem?_take] at hj
  split at hj
  · rename_i hji
    have hl := (List.getElem?_eq_some_iff.1 hj).1
    unfold mR
    rw [if_neg (by omega)]
    obtain ⟨a, ha⟩ : ∃ a, ys[i - 1]? = some a := ⟨_, List.getElem?_eq_getElem (by omega)⟩
    have h1 := h.2 j (i - 1) r a (by omega) hj ha
    have h2 := h.1 _ a ha
    rw [ha]
    dsimp only
    omega
  · cases hj

/-- A slice's length. -/
def slen : Value → Nat
  | .slice _ n _ => n
  | _ => 0
theorem Want.form {B : Nat} {X : Nat → Prop} {W : World} {v : Value} {mm : Nat} {P : List (Int × Int)} {cs : List Value} (h : Want B X W v (rowsOf mm P) cs) : ∃ po co, v = .slice po mm co := by
  rcases h.own.2 with ⟨e, e2⟩ | ⟨g, cap, cur, e, _⟩
  · rw [rowsOf_length] at e2; exact ⟨none, 0, by rw [e, e2]⟩
  · rw [rowsOf_length] at e; exact ⟨_, cap, e⟩

/-- What the loops bear. -/
def RSetsRel (W1 : World) (ys : List RN) (i mm : Nat) (vo : Value) (wr : World) : Prop :=
  ∃ cs, Want W1.heap.size (fun _ => False) wr vo (rowsOf mm (prR (ys.take i))) cs ∧ Below W1.heap.size W1 wr

set_option maxHeartbeats 4000000 in
set_option maxRecDepth 100000 in
theorem rsets_yes {B : Nat} {W : World} {m : Nat} {v : Value} {R : List RN} (h : IsRef B W m v R) (hpr : ∀ (j : Nat) (r : RN), R[j]? = some r → r.prev < (j : Int)) (hl : R.length ≤ 100) {k0 : Int} (hi : isR R k0 = true)
    (hrise : ∀ xs, PathR R k0 xs → Rise xs.reverse ∧ xs.length ≤ 100) :
    Calls Try.prog 32 #[.pointer (some ⟨m, 0, none⟩), .int .i64 k0] W fun e w' => ∃ vo xs, e = .returned vo ∧ PathR R k0 xs ∧ IsRows (fun _ => True) w' vo (rowsOf (mR xs.reverse xs.length) (prR xs.reverse)) ∧ Below W.heap.size W w' := by
  go_enter Try.func32, Try.ntmps32
  go_wp2_with fail
  go_at_call 30
  refine (rpath_yes h hpr (by omega) hi).mono ?_
  rintro e W1 ⟨vl, xs, rfl, hpath, hown, hb1⟩
  obtain ⟨hri, hxl⟩ := hrise xs hpath
  obtain ⟨ys, hys⟩ : ∃ ys, xs.reverse = ys := ⟨_, rfl⟩
  have hyl : ys.length = xs.length := by rw [← hys]; simp
  rw [hys] at hri hown
  rw [← hyl] at hown
  have href : IsRef W.heap.size (W1.alloc (.cells #[vl] 45)) W1.heap.size vl ys := ⟨hown.alloc _, blk_new W1 _, fun e => by have := (hown.lt _ e).2; omega⟩
  have hcells : ∀ (j : Nat) (r : RN), ys[j]? = some r → ∃ g cap, vl = .slice (some ⟨g, 0, none⟩) ys.length cap ∧ g < W1.heap.size ∧ W1.cell? ⟨g, j * 7 + 1, none⟩ = some (.int .i64 r.cell) ∧ W1.cell? ⟨g, j * 7 + 2, none⟩ = some (.int .i64 r.num) := fun j r hj => by
    obtain ⟨hl', ⟨_, h2⟩ | ⟨g, cap, cur, rfl, hg, hb, hc, hm, hs, ht⟩⟩ := id hown
    · rw [List.eq_nil_of_length_eq_zero h2] at hj; simp at hj
    · have hjl := (List.getElem?_eq_some_iff.1 hj).1
      refine ⟨g, cap, rfl, blk_lt hb, ?_, ?_⟩
      · rw [hown.cellAt (j * 7 + 1) (by omega)]; exact rnv_get ys j 1 r hj (by omega)
      · rw [hown.cellAt (j * 7 + 2) (by omega)]; exact rnv_get ys j 2 r hj (by omega)
  obtain ⟨pl, lcap, rfl⟩ : ∃ pl lcap, vl = .slice pl ys.length lcap := by
    rcases hown.2 with ⟨rfl, e2⟩ | ⟨g, cap, cur, rfl, _⟩
    · exact ⟨none, 0, by rw [e2]⟩
    · exact ⟨_, cap, rfl⟩
  have HC := Lib.hid (And.intro hcells (And.intro hri hpath))
  have hst : RSetsRel W1 ys 0 0 (.slice none 0 0) W1 := ⟨[], by simp [prR, rowsOf, Want.nil], Below.refl _ _⟩
  have hyb : ys.length ≤ 100 := by omega
  have HY := Lib.hid (And.intro hyl hys)
  clear hyl hys
  have hW1 := hb1.size
  clear hri hpath hown href hcells h hrise hpr hi
  go_wp2_with fail
  go_loopw [5, 7] (fun vo vi wr => ∃ i : Nat, i ≤ ys.length ∧ vi = .int .i64 (i : Int) ∧ RSetsRel W1 ys i (mR ys i) vo wr) (fun _ vi _ => ys.length - (intOf vi).toNat)
  case atStart => exact ⟨0, Nat.zero_le _, rfl, hst⟩
  case round =>
    clear hst
    obtain ⟨i, hil, rfl, cs, hwant, hbel⟩ := hrel
    by_cases hlt : i < ys.length
    · obtain ⟨q, hq⟩ : ∃ q, ys[i]? = some q := ⟨_, List.getElem?_eq_getElem hlt⟩
      obtain ⟨gl, lcap', e, hgl1, y1, y2⟩ := HC.out.1 i q hq
      injection e with ea eb ec
      subst ea
      obtain ⟨hq0, hq5⟩ := HC.out.2.1.1 i q hq
      obtain ⟨cl, hcl⟩ : ∃ cl : Nat, q.cell = (cl : Int) := ⟨q.cell.toNat, by omega⟩
      rw [hcl] at y1
      have hmi : mR ys i ≤ cl + 1 := by
        unfold mR
        split
        · omega
        · obtain ⟨a, ha⟩ : ∃ a, ys[i - 1]? = some a := ⟨_, List.getElem?_eq_getElem (by omega)⟩
          have := HC.out.2.1.2 (i - 1) i a q (by omega) ha hq
          rw [ha]
          dsimp only
          omega
      have hps : ∀ mm, mR ys i ≤ mm → ∀ p ∈ prR (ys.take i), p.1 < (mm : Int) := fun mm hmm p hp => by have := HC.out.2.1.lt hil p hp; omega
      have hst2 : RSetsRel W1 ys i (mR ys i) u5 wr := ⟨cs, hwant, hbel⟩
      have HQ := Lib.hid (And.intro hq (And.intro hps hcl))
      have hc5 : cl ≤ 5 := by omega
      have y1' : wr.cell? ⟨gl, i * 7 + 1, none⟩ = some (.int .i64 (cl : Int)) := (hbel.cell (p := ⟨gl, i * 7 + 1, none⟩) hgl1).trans y1
      clear hq hps hcl hwant hbel hq0 hq5 eb ec y1'
      go_wp2_with fail
      go_loopw [5] (fun vo wr => ∃ mm : Nat, mR ys i ≤ mm ∧ mm ≤ cl + 1 ∧ RSetsRel W1 ys i mm vo wr) (fun vo _ => cl + 1 - slen vo)
      case atStart => exact ⟨_, Nat.le_refl _, hmi, hst2⟩
      case round =>
        clear hst2
        obtain ⟨mm, hmm1, hmm2, cs, hwant, hbel⟩ := hrel
        have hyc1 : wr.cell? ⟨gl, i * 7 + 1, none⟩ = some (.int .i64 (cl : Int)) := (hbel.cell (p := ⟨gl, i * 7 + 1, none⟩) hgl1).trans y1
        have hyl1 : gl < wr.heap.size := Nat.lt_of_lt_of_le hgl1 hbel.size
        obtain ⟨po, co, rfl⟩ := hwant.form
        by_cases hmc : mm ≤ cl
        · obtain ⟨v5, w5, hrun5, hwant5, hkeep5⟩ := hwant.more (fun b h => h.elim) hbel.size (by rw [rowsOf_length]; omega) 26
          rw [← rowsOf_more mm _ (HQ.out.2.1 mm hmm1)] at hwant5
          obtain ⟨p5, c5, rfl⟩ := hwant5.form
          have hbel5 : Below W1.heap.size W1 w5 := hbel.trans (hkeep5.below hbel.size fun b hb => hb.1)
          have hrel : RSetsRel W1 ys i (mm + 1) (.slice p5 (mm + 1) c5) w5 := ⟨_, hwant5, hbel5⟩
          have HR := Lib.hid hrun5
          have hle : (mm : Int) ≤ (cl : Int) := by omega
          clear hwant hwant5 hkeep5 hbel hbel5 hrun5
          go_wp2_with (at_builtin; refine wpList_append_run rfl _ _ 26 rfl _ _ rfl rfl HR.out ?_)
          go_roundw
          case rel => exact ⟨mm + 1, by omega, by omega, hrel⟩
          case measure => simp only [slen]; omega
        · obtain rfl : mm = cl + 1 := by omega
          obtain ⟨W2, hW2⟩ : ∃ W2, W2 = wr := ⟨_, rfl⟩
          subst hW2
          have hxs := rowsOf_get (cl + 1) (prR (ys.take i)) cl (by omega)
          have hwant2 := hwant.keep ((Keep.refl (fun _ => False) W2).drew) fun i hi => .inl hi
          obtain ⟨g, gcap, vi, v3, W3, hvw, hgl, hgi, hgf, hrun3, hgw, hgr3, hwant3, hkeep3⟩ := hwant2.put (fun b h => h.elim) (show W1.heap.size ≤ W2.heap.size from hbel.size) cl _ hxs (by
            have h1 := List.length_filter_le (fun p : Int × Int => p.1 == (cl : Int)) (prR (ys.take i))
            have h2 : (prR (ys.take i)).length ≤ ys.length := by simp [prR]; omega
            rw [List.length_map]
            omega) q.num 22
          obtain ⟨p3, l3, c3, rfl⟩ := hwant3.slice_put (by rw [rowsOf_length]; omega)
          have hrunN : Hid ((do pure (Next.value (← Builtin.append_ #[22, 22] 22 #[vi, .slice (some ⟨W2.heap.size, 0, none⟩) 1 1])) : Sem Next).run Try.prog (W2.alloc (.cells #[.int .i64 q.num] 3)).drew = .ok (.value (.slice p3 l3 c3)) W3) := Lib.hid (by
            have hrun' : (Builtin.append_ #[22, 22] 22 #[vi, .slice (some ⟨W2.heap.size, 0, none⟩) 1 1]).run Try.prog (W2.alloc (.cells #[.int .i64 q.num] 3)).drew = .ok (.slice p3 l3 c3) W3 := hrun3
            simp only [Sem.run_bind, hrun', Result.andThen, Sem.run_pure])
          have hgl' : g < W2.heap.size := hgl
          have hgi' : W2.cell? ⟨g, cl, none⟩ = some vi := hgi
          have hs3 : W2.heap.size ≤ W3.heap.size := by have := hgr3.size; simp at this; have : W2.drew.heap.size = W2.heap.size := rfl; omega
          have hgi3 : W3.cell? ⟨g, cl, none⟩ = some vi := (World.cell?_of_block (w := W2) (a := ⟨g, cl, none⟩) hgw).trans hgi'
          have hgf3 : W3.frozen? ⟨g, cl, none⟩ = false := (World.frozen?_of_block (w := W2) (a := ⟨g, cl, none⟩) hgw).trans hgf
          have hgB : W1.heap.size ≤ g := (hwant.own.lt g (by rw [hvw]; rfl)).1
          have hy1 := hyc1
          have hy2 : W2.cell? ⟨gl, i * 7 + 2, none⟩ = some (.int .i64 q.num) := (hbel.cell (p := ⟨gl, i * 7 + 2, none⟩) hgl1).trans y2
          have hgll := hyl1
          have hnb : ∀ o, (W3.setCell ⟨g, cl, none⟩ (.slice p3 l3 c3)).cell? ⟨gl, o, none⟩ = W3.cell? ⟨gl, o, none⟩ := fun o => World.cell?_of_block (w := W3) (a := ⟨gl, o, none⟩) (Below.heap_setCell W3 ⟨g, cl, none⟩ _ gl (by show gl ≠ g; omega))
          have hk3 : ∀ o, (W3.setCell ⟨g, cl, none⟩ (.slice p3 l3 c3)).cell? ⟨gl, o, none⟩ = W2.cell? ⟨gl, o, none⟩ := fun o => hkeep3.cell (p := ⟨gl, o, none⟩) hgll (fun hn => by have := hn.1; dsimp only at this; omega)
          have hs17 : W3.cell? ⟨g, cl, none⟩ = some vi ∧ W3.cell? ⟨gl, i * 7 + 1, none⟩ = some (.int .i64 (cl : Int)) ∧ W3.cell? ⟨gl, i * 7 + 2, none⟩ = some (.int .i64 q.num) ∧ g < W3.heap.size ∧ gl < W3.heap.size := ⟨hgi3, (hnb _).symm.trans ((hk3 _).trans hy1), (hnb _).symm.trans ((hk3 _).trans hy2), by omega, by omega⟩
          have hgl3 : g < W3.heap.size := hs17.2.2.2.1
          have hbel2 : Below W1.heap.size W1 W2.drew := ⟨hbel.os, hbel.tape, hbel.output, hbel.size, hbel.block⟩
          have hrel : RSetsRel W1 ys (i + 1) (mR ys (i + 1)) (.slice (some ⟨g, 0, none⟩) (cl + 1) gcap) (W3.setCell ⟨g, cl, none⟩ (.slice p3 l3 c3)) := by
            rw [rowsOf_length] at hvw
            have hm1 : mR ys (i + 1) = cl + 1 := by
              unfold mR
              rw [if_neg (by omega), Nat.add_sub_cancel, HQ.out.1]
              dsimp only
              rw [HQ.out.2.2]
              omega
            have hp1 : prR (ys.take (i + 1)) = prR (ys.take i) ++ [((cl : Int), q.num)] := by
              have e : ys.take (i + 1) = ys.take i ++ [q] := by rw [List.take_add_one, HQ.out.1]; rfl
              rw [e]
              unfold prR
              rw [List.map_append, List.map_singleton, HQ.out.2.2]
            refine ⟨cs.set cl (.slice p3 l3 c3), ?_, hbel2.trans (hkeep3.below (show W1.heap.size ≤ W2.heap.size from hbel.size) fun b hb => hb.1)⟩
            rw [hm1, hp1, rowsOf_snoc _ _ _ _ (by omega), Int.toNat_natCast, ← hvw]
            exact hwant3
          rw [rowsOf_length] at hvw
          injection hvw with hv1 hv2 hv3
          subst hv1
          subst hv3
          clear hgi hgl hgf hwant hwant2 hwant3 hkeep3 hrun3 hgw hgr3 hxs hbel hbel2 hnb hk3 hv2 hgB hyc1 hyl1
          have hgt : ¬ ((cl : Int) + 1 ≤ (cl : Int)) := by omega
          go_wp2_with fail
          refine (wpIn_wide (n := 0)).1 ?_
          refine region_goes' (F := Fence.wide) (n := 0) (S := fun w' => w'.cell? ⟨g, cl, none⟩ = some vi ∧ w'.cell? ⟨gl, i * 7 + 1, none⟩ = some (.int .i64 (cl : Int)) ∧ w'.cell? ⟨gl, i * 7 + 2, none⟩ = some (.int .i64 q.num) ∧ g < w'.heap.size ∧ gl < w'.heap.size) (last := 22) 23 (l := #[false, false, false, false, false, false, false, false, false, false, false, false, false, false, false, false, false, false, false, false, false, false, false]) (fun _ => trivial) (by kernel_rfl) (by kernel_rfl) rfl rfl ?_
          have hS : W2.drew.cell? ⟨g, cl, none⟩ = some vi ∧ W2.drew.cell? ⟨gl, i * 7 + 1, none⟩ = some (.int .i64 (cl : Int)) ∧ W2.drew.cell? ⟨gl, i * 7 + 2, none⟩ = some (.int .i64 q.num) ∧ g < W2.drew.heap.size ∧ gl < W2.drew.heap.size := ⟨hgi', hy1, hy2, hgl', hgll⟩
          refine goes_take' (i := 0) (d := some 28) (v := .slice (some ⟨g, 0, none⟩) (cl + 1) co) (l' := #[true, false, false, false, false, false, false, false, false, false, false, false, false, false, false, false, false, false, false, false, false, false, false]) rfl (by kernel_rfl) (by kernel_rfl) (by kernel_rfl) (by kernel_rfl) rfl rfl (.inl ⟨rfl, fun w' hs => ?_⟩) hS ?_
          · obtain ⟨s0, s1, s2, s3, s4⟩ := hs
            go_simp
          simp only [Act.put, List.setIfInBounds_toArray, List.set_cons_zero, List.set_cons_succ]
          refine goes_take' (i := 1) (d := some 29) (v := .slice (some ⟨gl, 0, none⟩) ys.length lcap) (l' := #[true, true, false, false, false, false, false, false, false, false, false, false, false, false, false, false, false, false, false, false, false, false, false]) rfl (by kernel_rfl) (by kernel_rfl) (by kernel_rfl) (by kernel_rfl) rfl rfl (.inl ⟨rfl, fun w' hs => ?_⟩) hS ?_
          · obtain ⟨s0, s1, s2, s3, s4⟩ := hs
            go_simp
          simp only [Act.put, List.setIfInBounds_toArray, List.set_cons_zero, List.set_cons_succ]
          refine goes_take' (i := 2) (d := some 30) (v := .int .i64 (i : Int)) (l' := #[true, true, true, false, false, false, false, false, false, false, false, false, false, false, false, false, false, false, false, false, false, false, false]) rfl (by kernel_rfl) (by kernel_rfl) (by kernel_rfl) (by kernel_rfl) rfl rfl (.inl ⟨rfl, fun w' hs => ?_⟩) hS ?_
          · obtain ⟨s0, s1, s2, s3, s4⟩ := hs
            go_simp
          simp only [Act.put, List.setIfInBounds_toArray, List.set_cons_zero, List.set_cons_succ]
          refine goes_take' (i := 3) (d := some 31) (v := .pointer (some ⟨gl, i * 7, none⟩)) (l' := #[true, true, true, true, false, false, false, false, false, false, false, false, false, false, false, false, false, false, false, false, false, false, false]) rfl (by kernel_rfl) (by kernel_rfl) (by kernel_rfl) (by kernel_rfl) rfl rfl (.inl ⟨rfl, fun w' hs => ?_⟩) hS ?_
          · obtain ⟨s0, s1, s2, s3, s4⟩ := hs
            go_simp
            all_goals (intro hh; exfalso; omega)
          simp only [Act.put, List.setIfInBounds_toArray, List.set_cons_zero, List.set_cons_succ]
          refine goes_take' (i := 4) (d := some 32) (v := .pointer (some ⟨gl, i * 7 + 1, none⟩)) (l' := #[true, true, true, true, true, false, false, false, false, false, false, false, false, false, false, false, false, false, false, false, false, false, false]) rfl (by kernel_rfl) (by kernel_rfl) (by kernel_rfl) (by kernel_rfl) rfl rfl (.inl ⟨rfl, fun w' hs => ?_⟩) hS ?_
          · obtain ⟨s0, s1, s2, s3, s4⟩ := hs
            go_simp
          simp only [Act.put, List.setIfInBounds_toArray, List.set_cons_zero, List.set_cons_succ]
          refine goes_take' (i := 5) (d := some 33) (v := .int .i64 (cl : Int)) (l' := #[true, true, true, true, true, true, false, false, false, false, false, false, false, false, false, false, false, false, false, false, false, false, false]) rfl (by kernel_rfl) (by kernel_rfl) (by kernel_rfl) (by kernel_rfl) rfl rfl (.inl ⟨rfl, fun w' hs => ?_⟩) hS ?_
          · obtain ⟨s0, s1, s2, s3, s4⟩ := hs
            go_simp
          simp only [Act.put, List.setIfInBounds_toArray, List.set_cons_zero, List.set_cons_succ]
          refine goes_take' (i := 6) (d := some 34) (v := .slice (some ⟨g, 0, none⟩) (cl + 1) co) (l' := #[true, true, true, true, true, true, true, false, false, false, false, false, false, false, false, false, false, false, false, false, false, false, false]) rfl (by kernel_rfl) (by kernel_rfl) (by kernel_rfl) (by kernel_rfl) rfl rfl (.inl ⟨rfl, fun w' hs => ?_⟩) hS ?_
          · obtain ⟨s0, s1, s2, s3, s4⟩ := hs
            go_simp
          simp only [Act.put, List.setIfInBounds_toArray, List.set_cons_zero, List.set_cons_succ]
          refine goes_take' (i := 7) (d := some 35) (v := .slice (some ⟨gl, 0, none⟩) ys.length lcap) (l' := #[true, true, true, true, true, true, true, true, false, false, false, false, false, false, false, false, false, false, false, false, false, false, false]) rfl (by kernel_rfl) (by kernel_rfl) (by kernel_rfl) (by kernel_rfl) rfl rfl (.inl ⟨rfl, fun w' hs => ?_⟩) hS ?_
          · obtain ⟨s0, s1, s2, s3, s4⟩ := hs
            go_simp
          simp only [Act.put, List.setIfInBounds_toArray, List.set_cons_zero, List.set_cons_succ]
          refine goes_take' (i := 8) (d := some 36) (v := .int .i64 (i : Int)) (l' := #[true, true, true, true, true, true, true, true, true, false, false, false, false, false, false, false, false, false, false, false, false, false, false]) rfl (by kernel_rfl) (by kernel_rfl) (by kernel_rfl) (by kernel_rfl) rfl rfl (.inl ⟨rfl, fun w' hs => ?_⟩) hS ?_
          · obtain ⟨s0, s1, s2, s3, s4⟩ := hs
            go_simp
          simp only [Act.put, List.setIfInBounds_toArray, List.set_cons_zero, List.set_cons_succ]
          refine goes_take' (i := 9) (d := some 37) (v := .pointer (some ⟨gl, i * 7, none⟩)) (l' := #[true, true, true, true, true, true, true, true, true, true, false, false, false, false, false, false, false, false, false, false, false, false, false]) rfl (by kernel_rfl) (by kernel_rfl) (by kernel_rfl) (by kernel_rfl) rfl rfl (.inl ⟨rfl, fun w' hs => ?_⟩) hS ?_
          · obtain ⟨s0, s1, s2, s3, s4⟩ := hs
            go_simp
            all_goals (intro hh; exfalso; omega)
          simp only [Act.put, List.setIfInBounds_toArray, List.set_cons_zero, List.set_cons_succ]
          refine goes_take' (i := 10) (d := some 38) (v := .pointer (some ⟨gl, i * 7 + 1, none⟩)) (l' := #[true, true, true, true, true, true, true, true, true, true, true, false, false, false, false, false, false, false, false, false, false, false, false]) rfl (by kernel_rfl) (by kernel_rfl) (by kernel_rfl) (by kernel_rfl) rfl rfl (.inl ⟨rfl, fun w' hs => ?_⟩) hS ?_
          · obtain ⟨s0, s1, s2, s3, s4⟩ := hs
            go_simp
          simp only [Act.put, List.setIfInBounds_toArray, List.set_cons_zero, List.set_cons_succ]
          refine goes_take' (i := 11) (d := some 39) (v := .int .i64 (cl : Int)) (l' := #[true, true, true, true, true, true, true, true, true, true, true, true, false, false, false, false, false, false, false, false, false, false, false]) rfl (by kernel_rfl) (by kernel_rfl) (by kernel_rfl) (by kernel_rfl) rfl rfl (.inl ⟨rfl, fun w' hs => ?_⟩) hS ?_
          · obtain ⟨s0, s1, s2, s3, s4⟩ := hs
            go_simp
          simp only [Act.put, List.setIfInBounds_toArray, List.set_cons_zero, List.set_cons_succ]
          refine goes_take' (i := 12) (d := some 40) (v := .pointer (some ⟨g, cl, none⟩)) (l' := #[true, true, true, true, true, true, true, true, true, true, true, true, true, false, false, false, false, false, false, false, false, false, false]) rfl (by kernel_rfl) (by kernel_rfl) (by kernel_rfl) (by kernel_rfl) rfl rfl (.inl ⟨rfl, fun w' hs => ?_⟩) hS ?_
          · obtain ⟨s0, s1, s2, s3, s4⟩ := hs
            go_simp
            all_goals (intro hh; exfalso; omega)
          simp only [Act.put, List.setIfInBounds_toArray, List.set_cons_zero, List.set_cons_succ]
          refine goes_take' (i := 13) (d := some 41) (v := vi) (l' := #[true, true, true, true, true, true, true, true, true, true, true, true, true, true, false, false, false, false, false, false, false, false, false]) rfl (by kernel_rfl) (by kernel_rfl) (by kernel_rfl) (by kernel_rfl) rfl rfl (.inl ⟨rfl, fun w' hs => ?_⟩) hS ?_
          · obtain ⟨s0, s1, s2, s3, s4⟩ := hs
            go_simp
          simp only [Act.put, List.setIfInBounds_toArray, List.set_cons_zero, List.set_cons_succ]
          refine goes_take' (i := 14) (d := some 42) (v := .slice (some ⟨gl, 0, none⟩) ys.length lcap) (l' := #[true, true, true, true, true, true, true, true, true, true, true, true, true, true, true, false, false, false, false, false, false, false, false]) rfl (by kernel_rfl) (by kernel_rfl) (by kernel_rfl) (by kernel_rfl) rfl rfl (.inl ⟨rfl, fun w' hs => ?_⟩) hS ?_
          · obtain ⟨s0, s1, s2, s3, s4⟩ := hs
            go_simp
          simp only [Act.put, List.setIfInBounds_toArray, List.set_cons_zero, List.set_cons_succ]
          refine goes_take' (i := 15) (d := some 43) (v := .int .i64 (i : Int)) (l' := #[true, true, true, true, true, true, true, true, true, true, true, true, true, true, true, true, false, false, false, false, false, false, false]) rfl (by kernel_rfl) (by kernel_rfl) (by kernel_rfl) (by kernel_rfl) rfl rfl (.inl ⟨rfl, fun w' hs => ?_⟩) hS ?_
          · obtain ⟨s0, s1, s2, s3, s4⟩ := hs
            go_simp
          simp only [Act.put, List.setIfInBounds_toArray, List.set_cons_zero, List.set_cons_succ]
          refine goes_take' (i := 16) (d := some 44) (v := .pointer (some ⟨gl, i * 7, none⟩)) (l' := #[true, true, true, true, true, true, true, true, true, true, true, true, true, true, true, true, true, false, false, false, false, false, false]) rfl (by kernel_rfl) (by kernel_rfl) (by kernel_rfl) (by kernel_rfl) rfl rfl (.inl ⟨rfl, fun w' hs => ?_⟩) hS ?_
          · obtain ⟨s0, s1, s2, s3, s4⟩ := hs
            go_simp
            all_goals (intro hh; exfalso; omega)
          simp only [Act.put, List.setIfInBounds_toArray, List.set_cons_zero, List.set_cons_succ]
          refine goes_take' (i := 17) (d := some 45) (v := .pointer (some ⟨gl, i * 7 + 2, none⟩)) (l' := #[true, true, true, true, true, true, true, true, true, true, true, true, true, true, true, true, true, true, false, false, false, false, false]) rfl (by kernel_rfl) (by kernel_rfl) (by kernel_rfl) (by kernel_rfl) rfl rfl (.inl ⟨rfl, fun w' hs => ?_⟩) hS ?_
          · obtain ⟨s0, s1, s2, s3, s4⟩ := hs
            go_simp
          simp only [Act.put, List.setIfInBounds_toArray, List.set_cons_zero, List.set_cons_succ]
          refine goes_take' (i := 18) (d := some 46) (v := .int .i64 q.num) (l' := #[true, true, true, true, true, true, true, true, true, true, true, true, true, true, true, true, true, true, true, false, false, false, false]) rfl (by kernel_rfl) (by kernel_rfl) (by kernel_rfl) (by kernel_rfl) rfl rfl (.inl ⟨rfl, fun w' hs => ?_⟩) hS ?_
          · obtain ⟨s0, s1, s2, s3, s4⟩ := hs
            go_simp
          simp only [Act.put, List.setIfInBounds_toArray, List.set_cons_zero, List.set_cons_succ]
          have hs9 : (W2.alloc (.cells #[.int .i64 q.num] 3)).drew.cell? ⟨g, cl, none⟩ = some vi ∧ (W2.alloc (.cells #[.int .i64 q.num] 3)).drew.cell? ⟨gl, i * 7 + 1, none⟩ = some (.int .i64 (cl : Int)) ∧ (W2.alloc (.cells #[.int .i64 q.num] 3)).drew.cell? ⟨gl, i * 7 + 2, none⟩ = some (.int .i64 q.num) ∧ g < (W2.alloc (.cells #[.int .i64 q.num] 3)).drew.heap.size ∧ gl < (W2.alloc (.cells #[.int .i64 q.num] 3)).drew.heap.size :=
            ⟨(World.cell?_alloc_lt W2 _ ⟨g, cl, none⟩ hgl').trans hgi', (World.cell?_alloc_lt W2 _ ⟨gl, i * 7 + 1, none⟩ hgll).trans hy1, (World.cell?_alloc_lt W2 _ ⟨gl, i * 7 + 2, none⟩ hgll).trans hy2, by simp; omega, by simp; omega⟩
          refine goes_one' (i := 19) (l' := #[true, true, true, true, true, true, true, true, true, true, true, true, true, true, true, true, true, true, true, true, false, false, false]) (by kernel_rfl) (step_value (d := some 47) (v := .slice (some ⟨W2.heap.size, 0, none⟩) 1 1) (w' := (W2.alloc (.cells #[.int .i64 q.num] 3)).drew) rfl rfl rfl (by go_simp)) rfl (.inr hs9) ?_
          simp only [Act.put, List.setIfInBounds_toArray, List.set_cons_zero, List.set_cons_succ]
          refine goes_one' (i := 20) (l' := #[true, true, true, true, true, true, true, true, true, true, true, true, true, true, true, true, true, true, true, true, true, false, false]) (by kernel_rfl) (step_value (d := some 48) (v := .slice p3 l3 c3) (w' := W3) rfl rfl rfl (by simp only [List.getElem_toArray, List.getElem_cons_succ, List.getElem_cons_zero, BigFrame.execOp_builtin, BigFrame.builtin_append, List.map_toArray, List.map_cons, List.map_nil]; exact hrunN.out)) rfl (.inr hs17) ?_
          simp only [Act.put, List.setIfInBounds_toArray, List.set_cons_zero, List.set_cons_succ]
          refine goes_take' (i := 21) (d := some 49) (v := .pointer (some ⟨g, cl, none⟩)) (l' := #[true, true, true, true, true, true, true, true, true, true, true, true, true, true, true, true, true, true, true, true, true, true, false]) rfl (by kernel_rfl) (by kernel_rfl) (by kernel_rfl) (by kernel_rfl) rfl rfl (.inl ⟨rfl, fun w' hs => ?_⟩) hs17 ?_
          · obtain ⟨s0, s1, s2, s3, s4⟩ := hs
            go_simp
            all_goals (intro hh; exfalso; omega)
          simp only [Act.put, List.setIfInBounds_toArray, List.set_cons_zero, List.set_cons_succ]
          refine goes_one' (i := 22) (l' := #[true, true, true, true, true, true, true, true, true, true, true, true, true, true, true, true, true, true, true, true, true, true, true]) (by kernel_rfl) (step_skip (d := none) (w' := W3.setCell ⟨g, cl, none⟩ (.slice p3 l3 c3)) rfl rfl rfl (by go_simp)) rfl (.inl rfl) ?_
          refine goes_done (by kernel_rfl) ?_
          simp only [Act.put]
          generalize W3.setCell ⟨g, cl, none⟩ (.slice p3 l3 c3) = W4 at hrel ⊢
          go_wp2_with fail
          exact ⟨⟨i + 1, by omega, by simp, hrel⟩, by simp only [intOf]; omega⟩
    · obtain rfl : i = ys.length := by omega
      have hrows : IsRows (fun _ => True) wr u5 (rowsOf (mR xs.reverse xs.length) (prR xs.reverse)) := by
        have h1 := hwant.rows
        rw [List.take_length] at h1
        rw [HY.out.2, ← HY.out.1]
        exact h1
      have hbelW : Below W.heap.size W wr := hb1.trans (hbel.mono hW1)
      clear hwant hbel
      go_wp2_with fail
      go_ret
      have hpp := HC.out.2.2
      first | exact ⟨_, xs, rfl, hpp, hrows, hbelW⟩ | exact ⟨_, rfl, xs, hpp, hrows, hbelW⟩ | exact ⟨xs, hpp, hrows, hbelW⟩

end Go.Proofs.Ythflfafenehofaa
