/-
  The comparison of the sets of b: what has come up.
-/
import Derived.Test.YthflfafenehofaaV5
import Derived.Test.YthflfafenehofaaInv
namespace Go.Proofs.Ythflfafenehofaa
open Go.RowKit Go.Shelf

theorem IsInts.tight {R : Nat → Prop} {w : World} {v : Value} {xs : List Int} (h : IsInts R w v xs) : IsInts (fun b => R b ∧ b < w.heap.size) w v xs := by
  obtain ⟨p, cap, hv, hc⟩ := h
  refine ⟨p, cap, hv, fun i x hx => ?_⟩
  obtain ⟨b, off, h1, h2, h3, h4⟩ := hc i x hx
  exact ⟨b, off, h1, ⟨h2, h3⟩, h3, h4⟩
theorem IsRows.tight {R : Nat → Prop} {w : World} {v : Value} {xss : List (List Int)} (h : IsRows R w v xss) : IsRows (fun b => R b ∧ b < w.heap.size) w v xss := by
  obtain ⟨p, cap, hv, hc⟩ := h
  refine ⟨p, cap, hv, fun i xs hx => ?_⟩
  obtain ⟨b, off, vi, h1, h2, h3, h4, h5⟩ := hc i xs hx
  exact ⟨b, off, vi, h1, ⟨h2, h3⟩, h3, h4, h5.tight⟩
theorem own_ints {w : World} {b : Nat} {v : Value} {n : Nat} {xs : List Int} (h : w.ownsRow b 3 1 v n (ints xs)) (hn : xs.length = n) : IsInts (fun _ => True) w v xs := by
  subst hn
  obtain ⟨hl', ⟨rfl, h0⟩ | ⟨g', cap', cur', rfl, hg', hb', hc', hm', hs', ht'⟩⟩ := id h
  · exact ⟨none, 0, by rw [h0], fun i y hy => by rw [List.eq_nil_of_length_eq_zero h0] at hy; simp at hy⟩
  · refine ⟨some ⟨g', 0, none⟩, cap', rfl, fun j y hy => ⟨g', 0, rfl, trivial, blk_lt hb', ?_⟩⟩
    have hjl : j < xs.length := (List.getElem?_eq_some_iff.1 hy).1
    rw [Nat.zero_add, h.cellAt j (by omega), ints, List.getElem?_map, hy]
    rfl

theorem sets_b' {X : Nat → Prop} {W : World} {cb mb : Nat} {nums : List Int} {L : List CN} {N : Nat} {bA bB : Nat} {x y : Int} (hN : L.length = N) (h : IsChain X W cb mb (L.map some ++ [some (nodeA bA N x), some (nodeB bB N y)])) (hr : RowC nums L (lastc N 2)) (hl : N ≤ 100) :
    Calls Try.prog 13 #[.pointer (some ⟨cb, 0, none⟩), .int .i64 ((N : Int) + 1)] W fun e w' => ∃ v, e = .returned v ∧ IsRows (fun b => W.heap.size ≤ b ∧ b < w'.heap.size) w' v [nums.take N ++ [y]] ∧ Below W.heap.size W w' := by
  have h1 := sets_tail (k := 1) hN h hr hl rfl rfl 0 rfl (by omega)
  refine h1.mono ?_
  rintro e w' ⟨v, rfl, hv, hb⟩
  refine ⟨v, rfl, ?_, hb⟩
  have e2 := rows_b hr y
  rw [hr.nums, hN] at e2
  rw [← e2]
  exact hv.tight

/-- 'append([]int{}, row...)'. -/
theorem app_zero {R : Nat → Prop} {W : World} {g N capu : Nat} {pu : Option Addr} {xs : List Int} (hg : W.heap[g]? = some (.cells #[] 3)) (hu : IsInts R W (.slice pu N capu) xs) (hN : xs.length = N) (hpos : 0 < N) (hl : N ≤ 100) :
    ∃ cap W', (Builtin.append_ #[22, 22] 22 #[.slice (some ⟨g, 0, none⟩) 0 0, .slice pu N capu]).run Try.prog W = .ok (.slice (some ⟨W.heap.size, 0, none⟩) N cap) W' ∧ Below W.heap.size W W' ∧ W'.ownsRow W.heap.size 3 1 (.slice (some ⟨W.heap.size, 0, none⟩) N cap) N (ints xs) := by
  obtain ⟨p, cap, hv, hc⟩ := hu
  injection hv with e1 e2 e3
  subst e1
  subst e3
  clear e2
  obtain ⟨x0, hx0⟩ : ∃ x, xs[0]? = some x := ⟨_, List.getElem?_eq_getElem (by omega)⟩
  obtain ⟨b, off, rfl, _, hbl, _⟩ := hc 0 x0 hx0
  obtain ⟨i0, hi, hz0, hz1, hz2⟩ := info_parts info3
  have hnews : ∀ j u, (ints xs)[j]? = some u → W.cell? ((⟨b, off, none⟩ : Addr).add j) = some u := fun j u hu => by
    rw [ints, List.getElem?_map] at hu
    obtain ⟨x, hx, rfl⟩ := Option.map_eq_some_iff.1 hu
    obtain ⟨b', off', e, _, _, h4⟩ := hc j x hx
    cases e
    by_cases e : j = 0
    · subst e; simpa [Addr.add] using h4
    · simpa [Addr.add, e] using h4
  have hlen : (ints xs).length = N * 1 := by simp [ints, hN]
  have hown : W.ownsRow 0 3 1 (.slice (some ⟨g, 0, none⟩) 0 0) 0 [] := ⟨rfl, .inr ⟨g, 0, #[], rfl, Nat.zero_le _, hg, Nat.le_refl _, by unfold maxLen; omega, rfl, rfl⟩⟩
  obtain ⟨v', W', hrun, hown', hgr, _, hat⟩ := run_append_own_at (P := Try.prog) W 0 22 22 3 i0 (.int .i64 0) 1 8 Try.underlying22 hi hz0 hz1 hz2 rfl (by decide) _ 0 [] hown ⟨b, off, none⟩ N capu (ints xs) hlen hnews
    (fun u hu => by
      obtain ⟨y, _, rfl⟩ := List.mem_map.1 hu
      rfl) (by unfold maxLen; omega) (by omega) (Nat.zero_le _)
  have hrun2 := run_append_grow (P := Try.prog) W 22 22 3 i0 (.int .i64 0) Try.underlying22 hi hz0 ⟨g, 0, none⟩ 0 0 [] (by simp) (fun j v h => by simp at h) ⟨b, off, none⟩ N capu (ints xs) (by rw [hz1]; exact hlen) hnews (by omega) (by omega)
    (growslice_fits (by omega) (by rw [hz2]; omega))
  rw [hrun] at hrun2
  injection hrun2 with e1 e2
  simp only [Nat.zero_add, List.nil_append] at e1 hown'
  subst e1
  refine ⟨_, W', hrun, ?_, ?_⟩
  · rw [e2]
    exact (⟨rfl, rfl, rfl, Nat.le_refl _, fun _ _ => rfl⟩ : Below W.heap.size W W.drew).alloc (Nat.le_refl _) _
  · obtain ⟨o1, ⟨h0, _⟩ | ⟨g', cap', cur, h1, _, h3⟩⟩ := hown'
    · cases h0
    · cases h1
      exact ⟨o1, .inr ⟨_, _, cur, rfl, Nat.le_refl _, h3⟩⟩

/-- 'append(row, y)': a row of one's own. -/
theorem app_one {W : World} {B g9 N : Nat} {v : Value} {xs : List Int} {y : Int} (hown : W.ownsRow B 3 1 v N (ints xs)) (hN : xs.length = N) (h9 : W.heap[g9]? = some (.cells #[.int .i64 y] 3)) (hl : N ≤ 100) (hB : B ≤ W.heap.size) :
    ∃ g cap W', (Builtin.append_ #[22, 22] 22 #[v, .slice (some ⟨g9, 0, none⟩) 1 1]).run Try.prog W = .ok (.slice (some ⟨g, 0, none⟩) (N + 1) cap) W' ∧ IsInts (fun _ => True) W' (.slice (some ⟨g, 0, none⟩) (N + 1) cap) (xs ++ [y]) ∧ W.grownBy W' v.ownBlock := by
  obtain ⟨i0, hi, hz0, hz1, hz2⟩ := info_parts info3
  obtain ⟨v', W', hrun, hown', hgr, _, hat⟩ := run_append_own_at (P := Try.prog) W B 22 22 3 i0 (.int .i64 0) 1 8 Try.underlying22 hi hz0 hz1 hz2 rfl (by decide) _ N (ints xs) hown ⟨g9, 0, none⟩ 1 1 [.int .i64 y] rfl
    (fun j u hu => by
      match j, hu with
      | 0, hu => simp at hu; subst hu; simpa [Addr.add] using blk_cell h9 0) (by simp [Value.oneCell']) (by unfold maxLen; omega) (by omega) hB
  have hown2 : W'.ownsRow B 3 1 v' (N + 1) (ints (xs ++ [y])) := by simpa [ints] using hown'
  obtain ⟨g, cap, rfl⟩ := ownsRow_succ hown2
  exact ⟨g, cap, W', hrun, own_ints hown2 (by simp [hN]), hgr⟩

theorem if_wanted {p : Prop} [Decidable p] {A B : Prop} (hp : p) (hA : A) : if p then A else B := by rw [if_pos hp]; exact hA
theorem wp_append_run {P : Program} {o : Oper} {a : Act} {w : World} {K : Act → World → Prop} {Q : Exit → Act → World → Prop} (s x : Operand) (t : TypeId)
    (ho : o.op = .call { callee := .builtin .append, args := #[s, x], argTypes := #[t, t] }) (v x' : Value) (hs : a.eval s = v) (hx : a.eval x = x') {v' : Value} {w' : World}
    (hr : (Builtin.append_ #[t, t] o.type #[v, x']).run P w = .ok v' w') (h : K (a.put o.dst v') w') : o.wp P a w K Q := by
  unfold Oper.wp execOp
  simp only [ho, resolve, invoke, builtin, Sem.run_bind, Sem.run_pure, Result.andThen_ok, List.map_toArray, List.map_cons, List.map_nil, hs, hx, hr]
  exact h

/-- What has come up. -/
def P24 (c N gs os caps : Nat) (pu : Option Addr) (capu : Nat) (y : Int) (xs : List Int) : Nat → Value → World → Prop
  | 0, u, _ => u = .pointer (some ⟨c, 0, none⟩)
  | 1, u, _ => u = .int .i64 ((N : Int) + 1)
  | 4, u, _ => u = .slice (some ⟨gs, os, none⟩) 1 caps
  | 5, u, _ => u = .pointer (some ⟨gs, os, none⟩)
  | 6, u, _ => u = .slice pu N capu
  | 8, u, _ => u = .int .i64 y
  | 10, u, w => ∃ g cap, u = .slice (some ⟨g, 0, none⟩) (N + 1) cap ∧ IsInts (fun _ => True) w u (xs ++ [y])
  | 11, u, w => IsRows (fun _ => True) w u [xs ++ [y]]
  | 12, u, _ => u = .int .i64 0
  | 13, u, _ => u = .bool true
  | 14, u, _ => u = .bool true
  | _, _, _ => True

structure C24 (w0 : World) (c N gs os caps : Nat) (pu : Option Addr) (capu : Nat) (y : Int) (xs : List Int) (l : Array Bool) (v : Nat → Value) (w : World) : Prop where
  bel : Below w0.heap.size w0 w
  p : ∀ j, l[j]? = some true → P24 c N gs os caps pu capu y xs j (v j) w
  s2 : l[2]? = some true → ∃ R : Nat → Prop, IsRows R w (v 2) [xs ++ [y]] ∧ (∀ b, R b → b < w.heap.size) ∧ (l[7]? = some true → ∀ b, (v 7).ownBlock = some b → ¬ R b)
  s3 : l[3]? = some true → ∃ g, v 3 = .slice (some ⟨g, 0, none⟩) 0 0 ∧ (l[10]? ≠ some true → w.heap[g]? = some (.cells #[] 3))
  s7 : l[7]? = some true → ∃ g cap, v 7 = .slice (some ⟨g, 0, none⟩) N cap ∧ g < w.heap.size ∧ w0.heap.size ≤ g ∧ (l[10]? ≠ some true → w.ownsRow w0.heap.size 3 1 (v 7) N (ints xs))
  s9 : l[9]? = some true → ∃ g, v 9 = .slice (some ⟨g, 0, none⟩) 1 1 ∧ (l[10]? ≠ some true → w.heap[g]? = some (.cells #[.int .i64 y] 3))

section
variable {w0 : World} {c N gs os caps : Nat} {pu : Option Addr} {capu : Nat} {y : Int} {xs : List Int} {l : Array Bool} {v : Nat → Value} {w w' : World} {i : Nat} {u : Value}

theorem P24.mono {j : Nat} (h : P24 c N gs os caps pu capu y xs j u w) (hb : Below w.heap.size w w') : P24 c N gs os caps pu capu y xs j u w' := by
  match j, h with
  | 0, h | 1, h | 4, h | 5, h | 6, h | 8, h | 12, h | 13, h | 14, h => exact h
  | 10, h => obtain ⟨g, cap, e, hi⟩ := h; exact ⟨g, cap, e, hi.below hb⟩
  | 11, h => exact IsRows.below h hb
  | 2, _ | 3, _ | 7, _ | 9, _ | _ + 15, _ => exact trivial

theorem set_ne {i j : Nat} (h : j ≠ i) : (l.setIfInBounds i true)[j]? = l[j]? := Array.getElem?_setIfInBounds_ne (Ne.symm h)
theorem P24.step (h : ∀ j, l[j]? = some true → P24 c N gs os caps pu capu y xs j (v j) w) (hb : Below w.heap.size w w') (hu : P24 c N gs os caps pu capu y xs i u w') :
    ∀ j, (l.setIfInBounds i true)[j]? = some true → P24 c N gs os caps pu capu y xs j (upd v i u j) w' := fun j hj => by
  by_cases e : j = i
  · subst e; rw [upd_same]; exact hu
  · rw [upd_other _ _ e]; exact (h j (listed_set hj e)).mono hb
theorem s2_grow (h : C24 w0 c N gs os caps pu capu y xs l v w) (hb : Below w.heap.size w w') (h2 : l[2]? = some true) : ∃ R : Nat → Prop, IsRows R w' (v 2) [xs ++ [y]] ∧ (∀ b, R b → b < w'.heap.size) ∧ (∀ b, R b → b < w.heap.size) ∧ (l[7]? = some true → ∀ b, (v 7).ownBlock = some b → ¬ R b) := by
  obtain ⟨R, h1, h2, h3⟩ := h.s2 h2
  exact ⟨R, h1.below hb, fun b hb' => Nat.lt_of_lt_of_le (h2 b hb') hb.size, h2, h3⟩
theorem s7_grow (h : C24 w0 c N gs os caps pu capu y xs l v w) (hb : Below w.heap.size w w') (h7 : l[7]? = some true) : ∃ g cap, v 7 = .slice (some ⟨g, 0, none⟩) N cap ∧ g < w'.heap.size ∧ w0.heap.size ≤ g ∧ (l[10]? ≠ some true → w'.ownsRow w0.heap.size 3 1 (v 7) N (ints xs)) := by
  obtain ⟨g, cap, h1, h2, h3, h4⟩ := h.s7 h7
  exact ⟨g, cap, h1, Nat.lt_of_lt_of_le h2 hb.size, h3, fun hn => ownsRow_block (h4 hn) fun b hb' => hb.block b ((h4 hn).lt b hb').2⟩

/-- A step that leaves what lay there. -/
theorem C24.grow (h : C24 w0 c N gs os caps pu capu y xs l v w) (hb : Below w.heap.size w w') (hu : P24 c N gs os caps pu capu y xs i u w') (n2 : i ≠ 2 := by decide) (n3 : i ≠ 3 := by decide) (n7 : i ≠ 7 := by decide) (n9 : i ≠ 9 := by decide) (n10 : i ≠ 10 := by decide) :
    C24 w0 c N gs os caps pu capu y xs (l.setIfInBounds i true) (upd v i u) w' := by
  refine ⟨h.bel.trans (hb.mono h.bel.size), P24.step h.p hb hu, ?_, ?_, ?_, ?_⟩
  all_goals simp only [set_ne (Ne.symm n2), set_ne (Ne.symm n3), set_ne (Ne.symm n7), set_ne (Ne.symm n9), set_ne (Ne.symm n10), upd_other _ _ (Ne.symm n2), upd_other _ _ (Ne.symm n3), upd_other _ _ (Ne.symm n7), upd_other _ _ (Ne.symm n9)]
  · intro h2
    obtain ⟨R, h1, h2, _, h3⟩ := s2_grow h hb h2
    exact ⟨R, h1, h2, h3⟩
  · intro h3
    obtain ⟨g, h1, h2⟩ := h.s3 h3
    exact ⟨g, h1, fun hn => (hb.block g (blk_lt (h2 hn))).trans (h2 hn)⟩
  · exact s7_grow h hb
  · intro h3
    obtain ⟨g, h1, h2⟩ := h.s9 h3
    exact ⟨g, h1, fun hn => (hb.block g (blk_lt (h2 hn))).trans (h2 hn)⟩
theorem C24.same (h : C24 w0 c N gs os caps pu capu y xs l v w) (hu : P24 c N gs os caps pu capu y xs i u w) (n2 : i ≠ 2 := by decide) (n3 : i ≠ 3 := by decide) (n7 : i ≠ 7 := by decide) (n9 : i ≠ 9 := by decide) (n10 : i ≠ 10 := by decide) :
    C24 w0 c N gs os caps pu capu y xs (l.setIfInBounds i true) (upd v i u) w := h.grow (Below.refl _ _) hu n2 n3 n7 n9 n10
theorem C24.two (h : C24 w0 c N gs os caps pu capu y xs l v w) (hb : Below w.heap.size w w') (hu : IsRows (fun b => w.heap.size ≤ b ∧ b < w'.heap.size) w' u [xs ++ [y]]) : C24 w0 c N gs os caps pu capu y xs (l.setIfInBounds 2 true) (upd v 2 u) w' := by
  refine ⟨h.bel.trans (hb.mono h.bel.size), P24.step h.p hb trivial, fun _ => ?_, ?_, ?_, ?_⟩
  · rw [upd_same]
    refine ⟨_, hu, fun b hb' => hb'.2, ?_⟩
    rw [set_ne (by decide), upd_other _ _ (by decide)]
    intro h7 b hb' hR
    obtain ⟨g, cap, e, hg, _⟩ := h.s7 h7
    rw [e] at hb'
    have : g = b := by simpa [Value.ownBlock] using hb'
    have := hR.1
    omega
  all_goals simp only [set_ne (l := l) (show (3 : Nat) ≠ 2 by decide), set_ne (l := l) (show (7 : Nat) ≠ 2 by decide), set_ne (l := l) (show (9 : Nat) ≠ 2 by decide), set_ne (l := l) (show (10 : Nat) ≠ 2 by decide), upd_other v u (show (3 : Nat) ≠ 2 by decide), upd_other v u (show (7 : Nat) ≠ 2 by decide), upd_other v u (show (9 : Nat) ≠ 2 by decide)]
  · intro h3
    obtain ⟨g, h1, h2⟩ := h.s3 h3
    exact ⟨g, h1, fun hn => (hb.block g (blk_lt (h2 hn))).trans (h2 hn)⟩
  · exact s7_grow h hb
  · intro h3
    obtain ⟨g, h1, h2⟩ := h.s9 h3
    exact ⟨g, h1, fun hn => (hb.block g (blk_lt (h2 hn))).trans (h2 hn)⟩
theorem C24.three (h : C24 w0 c N gs os caps pu capu y xs l v w) (hb : Below w.heap.size w w') {g : Nat} (hg : w'.heap[g]? = some (.cells #[] 3)) : C24 w0 c N gs os caps pu capu y xs (l.setIfInBounds 3 true) (upd v 3 (.slice (some ⟨g, 0, none⟩) 0 0)) w' := by
  refine ⟨h.bel.trans (hb.mono h.bel.size), P24.step h.p hb trivial, ?_, fun _ => ⟨g, upd_same _ _ _, fun _ => hg⟩, ?_, ?_⟩
  all_goals simp only [set_ne (l := l) (show (2 : Nat) ≠ 3 by decide), set_ne (l := l) (show (7 : Nat) ≠ 3 by decide), set_ne (l := l) (show (9 : Nat) ≠ 3 by decide), set_ne (l := l) (show (10 : Nat) ≠ 3 by decide), upd_other v _ (show (2 : Nat) ≠ 3 by decide), upd_other v _ (show (7 : Nat) ≠ 3 by decide), upd_other v _ (show (9 : Nat) ≠ 3 by decide)]
  · intro h2
    obtain ⟨R, h1, h2, _, h3⟩ := s2_grow h hb h2
    exact ⟨R, h1, h2, h3⟩
  · exact s7_grow h hb
  · intro h3
    obtain ⟨g, h1, h2⟩ := h.s9 h3
    exact ⟨g, h1, fun hn => (hb.block g (blk_lt (h2 hn))).trans (h2 hn)⟩
theorem C24.nine (h : C24 w0 c N gs os caps pu capu y xs l v w) (hb : Below w.heap.size w w') {g : Nat} (hg : w'.heap[g]? = some (.cells #[.int .i64 y] 3)) : C24 w0 c N gs os caps pu capu y xs (l.setIfInBounds 9 true) (upd v 9 (.slice (some ⟨g, 0, none⟩) 1 1)) w' := by
  refine ⟨h.bel.trans (hb.mono h.bel.size), P24.step h.p hb trivial, ?_, ?_, ?_, fun _ => ⟨g, upd_same _ _ _, fun _ => hg⟩⟩
  all_goals simp only [set_ne (l := l) (show (2 : Nat) ≠ 9 by decide), set_ne (l := l) (show (7 : Nat) ≠ 9 by decide), set_ne (l := l) (show (3 : Nat) ≠ 9 by decide), set_ne (l := l) (show (10 : Nat) ≠ 9 by decide), upd_other v _ (show (2 : Nat) ≠ 9 by decide), upd_other v _ (show (7 : Nat) ≠ 9 by decide), upd_other v _ (show (3 : Nat) ≠ 9 by decide)]
  · intro h2
    obtain ⟨R, h1, h2, _, h3⟩ := s2_grow h hb h2
    exact ⟨R, h1, h2, h3⟩
  · intro h3
    obtain ⟨g, h1, h2⟩ := h.s3 h3
    exact ⟨g, h1, fun hn => (hb.block g (blk_lt (h2 hn))).trans (h2 hn)⟩
  · exact s7_grow h hb
theorem C24.seven (h : C24 w0 c N gs os caps pu capu y xs l v w) (hb : Below w.heap.size w w') {cap : Nat} (hown : w'.ownsRow w.heap.size 3 1 (.slice (some ⟨w.heap.size, 0, none⟩) N cap) N (ints xs)) :
    C24 w0 c N gs os caps pu capu y xs (l.setIfInBounds 7 true) (upd v 7 (.slice (some ⟨w.heap.size, 0, none⟩) N cap)) w' := by
  refine ⟨h.bel.trans (hb.mono h.bel.size), P24.step h.p hb trivial, ?_, ?_, fun _ => ⟨w.heap.size, cap, upd_same _ _ _, (hown.lt _ rfl).2, h.bel.size, fun _ => ?_⟩, ?_⟩
  · rw [set_ne (l := l) (show (2 : Nat) ≠ 7 by decide), upd_other v _ (show (2 : Nat) ≠ 7 by decide), upd_same]
    intro h2
    obtain ⟨R, h1, h2, h3, _⟩ := s2_grow h hb h2
    refine ⟨R, h1, h2, fun _ b hb' hR => ?_⟩
    have := h3 b hR
    have : w.heap.size = b := by simpa [Value.ownBlock] using hb'
    omega
  · simp only [set_ne (l := l) (show (3 : Nat) ≠ 7 by decide), set_ne (l := l) (show (10 : Nat) ≠ 7 by decide), upd_other v _ (show (3 : Nat) ≠ 7 by decide)]
    intro h3
    obtain ⟨g, h1, h2⟩ := h.s3 h3
    exact ⟨g, h1, fun hn => (hb.block g (blk_lt (h2 hn))).trans (h2 hn)⟩
  · rw [upd_same]
    obtain ⟨o1, ⟨h0, _⟩ | ⟨g', cap', cur, h1, h2, h3⟩⟩ := hown
    · cases h0
    · exact ⟨o1, .inr ⟨g', cap', cur, h1, Nat.le_trans h.bel.size h2, h3⟩⟩
  · simp only [set_ne (l := l) (show (9 : Nat) ≠ 7 by decide), set_ne (l := l) (show (10 : Nat) ≠ 7 by decide), upd_other v _ (show (9 : Nat) ≠ 7 by decide)]
    intro h3
    obtain ⟨g, h1, h2⟩ := h.s9 h3
    exact ⟨g, h1, fun hn => (hb.block g (blk_lt (h2 hn))).trans (h2 hn)⟩
theorem C24.ten (h : C24 w0 c N gs os caps pu capu y xs l v w) (h7 : l[7]? = some true) (h10 : l[10]? = some false) (h11 : l[11]? ≠ some true) (hg : w.grownBy w' (v 7).ownBlock) (hu : P24 c N gs os caps pu capu y xs 10 u w') :
    C24 w0 c N gs os caps pu capu y xs (l.setIfInBounds 10 true) (upd v 10 u) w' := by
  obtain ⟨g7, cap7, e7, hg7, hw7, _⟩ := h.s7 h7
  have ht : (l.setIfInBounds 10 true)[10]? = some true := by
    have := (Array.getElem?_eq_some_iff.1 h10).1
    simp [this]
  refine ⟨?_, fun j hj => ?_, ?_, ?_, ?_, ?_⟩
  · refine h.bel.grown hg h.bel.size fun k hk => ?_
    rw [e7] at hk
    have : g7 = k := by simpa [Value.ownBlock] using hk
    omega
  · by_cases e : j = 10
    · subst e; rw [upd_same]; exact hu
    · rw [upd_other _ _ e]
      have hj' := listed_set hj e
      have := h.p j hj'
      match j, this with
      | 0, h | 1, h | 4, h | 5, h | 6, h | 8, h | 12, h | 13, h | 14, h => exact h
      | 10, _ => exact absurd rfl e
      | 11, _ => exact absurd hj' h11
      | 2, _ | 3, _ | 7, _ | 9, _ | _ + 15, _ => exact trivial
  · rw [set_ne (l := l) (show (2 : Nat) ≠ 10 by decide), upd_other v _ (show (2 : Nat) ≠ 10 by decide), set_ne (l := l) (show (7 : Nat) ≠ 10 by decide), upd_other v _ (show (7 : Nat) ≠ 10 by decide)]
    intro h2
    obtain ⟨R, h1, h2, h3⟩ := h.s2 h2
    have hk := grown_keep (Y := fun b => (v 7).ownBlock = some b) hg fun k hk => hk
    exact ⟨R, h1.keep hk fun b hR hx => h3 h7 b hx hR, fun b hb => Nat.lt_of_lt_of_le (h2 b hb) hg.size, h3⟩
  · rw [set_ne (l := l) (show (3 : Nat) ≠ 10 by decide), upd_other v _ (show (3 : Nat) ≠ 10 by decide)]
    intro h3
    obtain ⟨g, h1, _⟩ := h.s3 h3
    exact ⟨g, h1, fun hn => absurd ht hn⟩
  · rw [upd_other v _ (show (7 : Nat) ≠ 10 by decide)]
    intro _
    exact ⟨g7, cap7, e7, Nat.lt_of_lt_of_le hg7 hg.size, hw7, fun hn => absurd ht hn⟩
  · rw [set_ne (l := l) (show (9 : Nat) ≠ 10 by decide), upd_other v _ (show (9 : Nat) ≠ 10 by decide)]
    intro h3
    obtain ⟨g, h1, _⟩ := h.s9 h3
    exact ⟨g, h1, fun hn => absurd ht hn⟩
theorem C24.start (n : Nat) (v : Nat → Value) : C24 w0 c N gs os caps pu capu y xs (Array.replicate n false) v w0.drew := by
  have hno : ∀ j, (Array.replicate n false)[j]? = some true → False := fun j hj => by
    rw [Array.getElem?_replicate] at hj
    split at hj <;> cases hj
  exact ⟨⟨rfl, rfl, rfl, Nat.le_refl _, fun _ _ => rfl⟩, fun j hj => (hno j hj).elim, fun h => (hno _ h).elim, fun h => (hno _ h).elim, fun h => (hno _ h).elim, fun h => (hno _ h).elim⟩
end

end Go.Proofs.Ythflfafenehofaa
