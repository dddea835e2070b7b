/-
  The walks of the document's chain: Path.
-/
import Derived.Test.YthflfafenehofaaM5
import Derived.Test.YthflfafenehofaaV2
namespace Go.Proofs.Ythflfafenehofaa
open Go.RowKit Go.Shelf

attribute [local go_sem] Oper.semAt_some

/-- The nodes from one back to the first. -/
inductive PathR : List RN → Int → List RN → Prop
  | nil {R : List RN} {k : Int} (h : k < 0) : PathR R k []
  | cons {R : List RN} {j : Nat} {r : RN} {xs : List RN} (h : R[j]? = some r) (hr : PathR R r.prev xs) : PathR R (j : Int) (r :: xs)

theorem rv_one (x : RN) : ∀ u ∈ rv x, u.oneCell' = true := fun u hu => by
  simp [rv] at hu
  rcases hu with rfl | rfl | rfl | rfl | rfl | rfl | rfl <;> rfl
theorem rnv_one (R : List RN) : ∀ u ∈ rnv R, u.oneCell' = true := fun u hu => by
  obtain ⟨r, _, h⟩ := List.mem_flatMap.1 hu
  exact rv_one r u h

/-- 'append([]Node{x}, out...)'. -/
theorem app_node {W : World} {B : Nat} {vo : Value} {ys : List RN} (x : RN) (hown : W.ownsRow B 51 7 vo ys.length (rnv ys)) (hB : B ≤ W.heap.size) (hl : ys.length ≤ 1000) :
    ∃ v' w', (Builtin.append_ #[43, 43] 43 #[.slice (some ⟨W.heap.size, 0, none⟩) 1 1, vo]).run Try.prog (W.alloc (.cells #[.int .i64 x.prev, .int .i64 x.cell, .int .i64 x.num, .int .i64 x.slot, .int .i64 x.gen, .int .i64 x.kept, .bool x.gone] 51)) = .ok v' w' ∧
      w'.ownsRow B 51 7 v' (ys.length + 1) (rnv (x :: ys)) ∧ Below W.heap.size W w' := by
  obtain ⟨i0, hi, hz0, hz1, hz2⟩ := info_parts info51
  have hA : Below W.heap.size W (W.alloc (.cells #[.int .i64 x.prev, .int .i64 x.cell, .int .i64 x.num, .int .i64 x.slot, .int .i64 x.gen, .int .i64 x.kept, .bool x.gone] 51)) := (Below.refl _ _).alloc (Nat.le_refl _) _
  have hlit : (W.alloc (.cells #[.int .i64 x.prev, .int .i64 x.cell, .int .i64 x.num, .int .i64 x.slot, .int .i64 x.gen, .int .i64 x.kept, .bool x.gone] 51)).ownsRow W.heap.size 51 7 (.slice (some ⟨W.heap.size, 0, none⟩) 1 1) 1 (rv x) :=
    ⟨rfl, .inr ⟨W.heap.size, 1, _, rfl, Nat.le_refl _, blk_new W _, Nat.le_refl _, by unfold maxLen; omega, rfl, rfl⟩⟩
  have hsz : (W.alloc (.cells #[.int .i64 x.prev, .int .i64 x.cell, .int .i64 x.num, .int .i64 x.slot, .int .i64 x.gen, .int .i64 x.kept, .bool x.gone] 51)).heap.size = W.heap.size + 1 := by simp
  rcases hown.2 with ⟨rfl, h0⟩ | ⟨g, cap, cur, rfl, hg, hb, hc, hm, hs, ht⟩
  · have hys : ys = [] := List.eq_nil_of_length_eq_zero h0
    subst hys
    refine ⟨_, _, run_append_owned_none (P := Try.prog) (w := W.alloc (.cells #[.int .i64 x.prev, .int .i64 x.cell, .int .i64 x.num, .int .i64 x.slot, .int .i64 x.gen, .int .i64 x.kept, .bool x.gone] 51)) W.heap.size 43 43 51 i0 7 Try.underlying43 hi _ 1 _ hlit, ?_, hA⟩
    have : rnv [x] = rv x := by simp [rnv]
    rw [this]
    obtain ⟨o1, ⟨h1, _⟩ | ⟨g', cap', cur, h1, h2, h3⟩⟩ := hlit
    · cases h1
    · exact ⟨o1, .inr ⟨g', cap', cur, h1, Nat.le_trans hB h2, h3⟩⟩
  · have hcells := (hown.alloc (.cells #[.int .i64 x.prev, .int .i64 x.cell, .int .i64 x.num, .int .i64 x.slot, .int .i64 x.gen, .int .i64 x.kept, .bool x.gone] 51)).cells (g := g) rfl
    obtain ⟨v', w', hrun, hown', hgr, _⟩ := run_append_own (P := Try.prog) (w := W.alloc (.cells #[.int .i64 x.prev, .int .i64 x.cell, .int .i64 x.num, .int .i64 x.slot, .int .i64 x.gen, .int .i64 x.kept, .bool x.gone] 51)) W.heap.size 43 43 51 i0 (.agg #[.int .i64 0, .int .i64 0, .int .i64 0, .int .i64 0, .int .i64 0, .int .i64 0, .bool false]) 7 56 Try.underlying43 hi hz0 hz1 hz2 rfl (by decide) _ 1 _ hlit ⟨g, 0, none⟩ ys.length cap (rnv ys) (rnv_length ys) hcells (rnv_one ys) (by unfold maxLen; omega) (by omega) (by omega)
    refine ⟨v', w', hrun, ?_, hA.grown hgr (by omega) fun k hk => by injection hk with hk; subst hk; exact Nat.le_refl _⟩
    have e : rnv (x :: ys) = rv x ++ rnv ys := rfl
    rw [e, Nat.add_comm]
    obtain ⟨o1, ⟨h1, h2⟩ | ⟨g', cap', cur', h1, h2, h3⟩⟩ := hown'
    · omega
    · exact ⟨o1, .inr ⟨g', cap', cur', h1, Nat.le_trans hB h2, h3⟩⟩

set_option maxHeartbeats 1000000 in
theorem rpath_no {B : Nat} {W : World} {m : Nat} {v : Value} {R : List RN} (h : IsRef B W m v R) (k : Int) (hi : isR R k = false) :
    Calls Try.prog 30 #[.pointer (some ⟨m, 0, none⟩), .int .i64 k] W fun e w' => e = .returned (.slice none 0 0) ∧ W = w' := by
  go_enter Try.func30, Try.ntmps30
  go_wp2_with (go_at_call 17; refine (ris_any h k).mono ?_; rintro e w1 ⟨rfl, rfl⟩; rw [hi])
  go_ret
  exact ⟨rfl, rfl⟩

/-- What the loop bears. -/
def RPathRel (W : World) (R : List RN) (k0 : Int) (vk vo : Value) (wr : World) : Prop :=
  ∃ (pre : List RN) (k : Int), vk = .int .i64 k ∧ wr.ownsRow W.heap.size 51 7 vo pre.length (rnv pre.reverse) ∧ Below W.heap.size W wr ∧ k < (R.length : Int) ∧ (pre.length : Int) + (if 0 ≤ k then k + 1 else 0) ≤ R.length ∧ (∀ xs, PathR R k xs → PathR R k0 (pre ++ xs))

set_option maxHeartbeats 2000000 in
theorem rpath_yes {B : Nat} {W : World} {m : Nat} {v : Value} {R : List RN} (h : IsRef B W m v R) (hpr : ∀ (j : Nat) (r : RN), R[j]? = some r → r.prev < (j : Int)) (hl : R.length ≤ 1000) {k0 : Int} (hi : isR R k0 = true) :
    Calls Try.prog 30 #[.pointer (some ⟨m, 0, none⟩), .int .i64 k0] W fun e w' => ∃ vo xs, e = .returned vo ∧ PathR R k0 xs ∧ w'.ownsRow W.heap.size 51 7 vo xs.length (rnv xs.reverse) ∧ Below W.heap.size W w' := by
  obtain ⟨j, rfl, r, hr, hg⟩ := isR_some hi
  have hjl := (List.getElem?_eq_some_iff.1 hr).1
  have hst : RPathRel W R (j : Int) (.int .i64 (j : Int)) (.slice none 0 0) W := ⟨[], j, rfl, World.ownsRow_nil _ _ _ _, Below.refl _ _, by omega, by rw [if_pos (by omega)]; simp; omega, fun xs h => h⟩
  have HP := Lib.hid hpr
  clear hpr hr hg
  go_enter Try.func30, Try.ntmps30
  go_wp2_with (go_at_call 17; refine (ris_any h _).mono ?_; rintro e w1 ⟨rfl, rfl⟩; rw [hi])
  clear hi
  go_loopw [1, 6] (fun vk vo wr => RPathRel W R (j : Int) vk vo wr) (fun vk _ _ => (intOf vk + 1).toNat)
  case atStart => exact hst
  case round =>
    clear hst
    obtain ⟨pre, k, rfl, hown, hbel, hkl, hlen, hpath⟩ := hrel
    by_cases h0 : 0 ≤ k
    · obtain ⟨i, rfl⟩ : ∃ i : Nat, k = (i : Int) := ⟨k.toNat, by omega⟩
      obtain ⟨q, hq⟩ : ∃ q, R[i]? = some q := ⟨_, List.getElem?_eq_getElem (by omega)⟩
      have hpq := HP.out i q hq
      have hpr : ∀ xs, PathR R q.prev xs → PathR R (j : Int) ((pre ++ [q]) ++ xs) := fun xs hx => by
        have := hpath _ (PathR.cons hq hx)
        simpa using this
      have href1 := h.below hbel
      obtain ⟨c1, c2, c3, hcc⟩ := href1.cells
      rcases hcc with ⟨_, e⟩ | ⟨g, cap, rfl, _, hgl, _, _, hcell⟩
      · subst e; simp at hq
      obtain ⟨d0, d1, d2, d3, d4, d5, d6⟩ := hcell i q hq
      have hown' : wr.ownsRow W.heap.size 51 7 u6 pre.reverse.length (rnv pre.reverse) := by rw [List.length_reverse]; exact hown
      rw [if_pos h0] at hlen
      obtain ⟨v', w', hrun, hown2, hb2⟩ := app_node q hown' hbel.size (by rw [List.length_reverse]; omega)
      rw [List.length_reverse] at hown2
      have hkl2 : i < R.length := by omega
      have hi1 : (pre.length : Int) + 1 + (if 0 ≤ q.prev then q.prev + 1 else 0) ≤ R.length := by split <;> omega
      have hbel2 : Below W.heap.size W w' := hbel.trans (hb2.mono hbel.size)
      have e0 : w'.cell? ⟨g, i * 7, none⟩ = some (.int .i64 q.prev) := (hb2.cell (p := ⟨g, i * 7, none⟩) hgl).trans d0
      have e1 : w'.cell? ⟨m, 0, none⟩ = some (.slice (some ⟨g, 0, none⟩) R.length cap) := (hb2.cell (p := ⟨m, 0, none⟩) c3).trans c1
      have e2 : g < w'.heap.size := Nat.lt_of_lt_of_le hgl hb2.size
      have e3 : m < w'.heap.size := Nat.lt_of_lt_of_le c3 hb2.size
      have hrel : RPathRel W R (j : Int) (.int .i64 q.prev) v' w' := ⟨pre ++ [q], q.prev, rfl, by rw [List.length_append, List.reverse_append]; exact hown2, hbel2, by omega, by rw [List.length_append]; simpa using hi1, hpr⟩
      have HM := Lib.hid hpq
      have HR := Lib.hid hrun
      clear hown hown' hown2 hbel hbel2 hb2 hpath hpr hpq hlen hcell hq href1 hi1 hrun c2
      go_wp2_with (at_builtin; refine wpList_append_run rfl _ _ 43 rfl _ _ rfl rfl HR.out ?_)
      go_roundw
      case rel => exact hrel
      case measure =>
        have := HM.out
        simp only [intOf]
        omega
    · have hend := hpath [] (.nil (by omega))
      rw [List.append_nil] at hend
      clear hpath
      go_wp2_with fail
      go_ret
      first | exact ⟨_, pre, rfl, hend, hown, hbel⟩ | exact ⟨_, rfl, pre, hend, hown, hbel⟩ | exact ⟨pre, hend, hown, hbel⟩

end Go.Proofs.Ythflfafenehofaa
