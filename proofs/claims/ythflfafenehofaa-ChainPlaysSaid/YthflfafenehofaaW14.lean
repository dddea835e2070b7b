/-
  The walk of ChainPlays.
-/
import Derived.Test.YthflfafenehofaaM9
import Derived.Test.YthflfafenehofaaW13
import Derived.Test.YthflfafenehofaaInv
namespace Go.Proofs.Ythflfafenehofaa
open Go.RowKit Go.Shelf

attribute [local go_sem] Oper.semAt_some

/-- What has come up, in a statement whose values are known. -/
def Cv (w0 : World) (val : Nat → Value) (l : Array Bool) (v : Nat → Value) (w : World) : Prop := Below w0.heap.size w0 w ∧ ∀ j, l[j]? = some true → v j = val j
theorem Cv.start (w0 : World) (val : Nat → Value) (n : Nat) (v : Nat → Value) : Cv w0 val (Array.replicate n false) v w0.drew :=
  ⟨⟨rfl, rfl, rfl, Nat.le_refl _, fun _ _ => rfl⟩, fun j hj => by
    rw [Array.getElem?_replicate] at hj
    split at hj <;> cases hj⟩
theorem Cv.grow {w0 : World} {val : Nat → Value} {l : Array Bool} {v : Nat → Value} {w w' : World} {i : Nat} {u : Value} (h : Cv w0 val l v w) (hb : Below w.heap.size w w') (hu : u = val i) : Cv w0 val (l.setIfInBounds i true) (upd v i u) w' :=
  ⟨h.1.trans (hb.mono h.1.size), fun j hj => by
    by_cases e : j = i
    · subst e; rw [upd_same]; exact hu
    · rw [upd_other _ _ e]; exact h.2 j (listed_set hj e)⟩

/-- What the first loop bears. -/
def PlaysRel (w : World) (B c mb m : Nat) (n : Nat) (vi : Value) (wr : World) : Prop :=
  ∃ (M : CS) (R : List RN) (i : Nat), vi = .int .i64 (i : Int) ∧ i ≤ n ∧ i ≤ 50 ∧ R.length ≤ i ∧ Both B c mb m wr M R (i : Int) ∧ Below w.heap.size w wr

set_option maxHeartbeats 4000000 in
set_option maxRecDepth 100000 in
theorem plays_any {w : World} {v : Value} {acts : List (Int × Int × Int)} (hv : IsActs w v acts) :
    Calls Try.prog 6 #[v] w fun e w' => e = .returned (.bool true) ∧ Below w.heap.size w w' := by
  obtain ⟨p, cap, rfl, hact⟩ := hv
  have HN := Lib.hid hact
  clear hact
  go_enter Try.func6, Try.ntmps6
  go_wp2_with fail
  go_at_call 8
  refine (awake_any _).mono ?_
  rintro e w1 ⟨rfl, hb1⟩
  go_wp2_with fail
  go_at_call 9
  refine (new_any _).mono ?_
  rintro e w2 ⟨rfl, hc2, hb2⟩
  have hs1 := hb1.size
  have hs2 := hb2.size
  have hbA : Below w2.heap.size w2 (w2.alloc (.cells #[.slice none 0 0] 45)) := (Below.refl _ _).alloc (Nat.le_refl _) _
  have hst : PlaysRel w w1.heap.size (w1.heap.size + 1) w1.heap.size w2.heap.size acts.length (.int .i64 0) (w2.alloc (.cells #[.slice none 0 0] 45)) := by
    have href := ref_start w2
    refine ⟨[], [], 0, rfl, Nat.zero_le _, by omega, Nat.le_refl _, ⟨_, _, hc2.below hbA, ⟨World.ownsRow_nil _ _ _ _, href.blk, href.ne⟩, fun b hb hx => ?_, fun b hb => ?_, hs2, Sim.start, fun j r hj => by simp at hj⟩, hb1.trans ((hb2.mono hs1).trans (hbA.mono (by omega)))⟩
    · rcases hb with rfl | hb
      · exact Nat.lt_irrefl _ (hc2.lt _ hx)
      · simp [Value.ownBlock] at hb
    · rcases hb with rfl | rfl <;> omega
  clear hc2 hb2 hbA
  go_wp2_with fail
  generalize (w2.alloc (.cells #[.slice none 0 0] 45)) = w3 at hst ⊢
  go_loopw [6] (fun vi wr => PlaysRel w w1.heap.size (w1.heap.size + 1) w1.heap.size w2.heap.size acts.length vi wr) (fun vi _ => 50 - (intOf vi).toNat)
  case atStart => exact hst
  case round =>
    clear hst
    obtain ⟨M, R, i, rfl, hin, hi50, hRi, hbo, hbel⟩ := hrel
    have HBO := Lib.hid hbo
    by_cases hlt : i < acts.length ∧ i < 50
    · obtain ⟨hlt1, hlt2⟩ := hlt
      obtain ⟨a, ha⟩ : ∃ a, acts[i]? = some a := ⟨_, List.getElem?_eq_getElem (by omega)⟩
      obtain ⟨b, off, rfl, hbl, ha0, ha1, ha2⟩ := HN.out _ _ ha
      have d0 := (hbel.cell (p := ⟨b, off + i * 3, none⟩) hbl).trans ha0
      have d1 := (hbel.cell (p := ⟨b, off + i * 3 + 1, none⟩) hbl).trans ha1
      have d2 := (hbel.cell (p := ⟨b, off + i * 3 + 2, none⟩) hbl).trans ha2
      have db : b < wr.heap.size := by have := hbel.size; omega
      have hBr : w1.heap.size ≤ wr.heap.size := by
        obtain ⟨X, v', hch, _, _, hXB, _⟩ := hbo
        have := hXB _ hch.1; have := hch.lt _ hch.1; omega
      clear ha hbo
      go_wp2_with fail
      go_at_call 16
      refine (does_any HBO.out (by omega) (by omega) _ _ _).mono ?_
      rintro e w4 ⟨rfl, M', R', hbo', hR1, hR2, hb4⟩
      have hbel4 : Below w.heap.size w w4 := hbel.trans (hb4.mono hs1)
      have f2 := (hbel4.cell (p := ⟨b, off + i * 3 + 2, none⟩) hbl).trans ha2
      have fb : b < w4.heap.size := by have := hbel4.size; omega
      have hB4 : w1.heap.size ≤ w4.heap.size := by have := hb4.size; omega
      clear d0 d1 d2 db ha0 ha1 ha2
      have HBO' := Lib.hid hbo'
      obtain ⟨X', v', hch', href', _, _, _, hsim', _⟩ := hbo'
      obtain ⟨p2, cap2, rfl⟩ : ∃ p' cap', v' = .slice p' R'.length cap' := by
        rcases href'.cells.2.2.2 with ⟨e, e2⟩ | ⟨g, cap, e, _⟩
        · exact ⟨none, 0, by rw [e, e2]; rfl⟩
        · exact ⟨_, cap, e⟩
      obtain ⟨c1, c2, c3, _⟩ := href'.cells
      have hbd : Below w4.heap.size w4 w4.drew := ⟨rfl, rfl, rfl, Nat.le_refl _, fun _ _ => rfl⟩
      have hbo4 := HBO'.out.below hbd
      have hlr := liveR_le R'
      have hlive := hsim'.live
      clear hsim' c2
      go_wp2_with fail
      have HB4 := Lib.hid HBO'.out
      have HBL := Lib.hid (And.intro hbel4 (And.intro hbl fb))
      clear hbo4 hbel4 hbl hbd
      refine region_inv2 17 [32, 33, 34, 35, 36, 37, 38, 39, 40, 41, 42, 43, 44, 45, 46, 47, 8] (by kernel_rfl) rfl (by kernel_rfl) (Cv w4 (fun j => ([.pointer (some ⟨w1.heap.size + 1, 0, none⟩), .pointer (some ⟨w2.heap.size, 0, none⟩), .slice (some ⟨b, off, none⟩) acts.length cap, .int .i64 (i : Int), .pointer (some ⟨b, off + i * 3, none⟩), .pointer (some ⟨b, off + i * 3 + 2, none⟩), .int .i64 a.2.2, .pointer (some ⟨w2.heap.size, 0, none⟩), .pointer (some ⟨w2.heap.size, 0, none⟩), .pointer (some ⟨w2.heap.size, 0, none⟩), .slice p2 R'.length cap2, .int .i64 (R'.length : Int), .int .i64 ((R'.length : Int) + 2), .int .i64 (restF a.2.2 ((R'.length : Int) + 2)), .int .i64 (restF a.2.2 ((R'.length : Int) + 2) - 1), .bool true, .bool true] : List Value).getD j undef)) (fun v => Cv.start _ _ _ _) (fun i' l v w' hiN hi hc K hK => ?_) (fun l v w5 hall hc => ?_)
      · have hcase : i' = 0 ∨ i' = 1 ∨ i' = 2 ∨ i' = 3 ∨ i' = 4 ∨ i' = 5 ∨ i' = 6 ∨ i' = 7 ∨ i' = 8 ∨ i' = 9 ∨ i' = 10 ∨ i' = 11 ∨ i' = 12 ∨ i' = 13 ∨ i' = 14 ∨ i' = 15 ∨ i' = 16 := by omega
        clear hiN
        rcases hcase with rfl | rfl | rfl | rfl | rfl | rfl | rfl | rfl | rfl | rfl | rfl | rfl | rfl | rfl | rfl | rfl | rfl
        · refine wpOp_step rfl (fun K' hK' => ?_)
          simp only [putsFrom, Act.put, List.setIfInBounds_toArray, List.set_cons_zero, List.set_cons_succ]
          go_simp
          refine hK' _ _ ?_
          have hz := hK (.pointer (some ⟨w1.heap.size + 1, 0, none⟩)) (w') (hc.grow (Below.refl _ _) rfl)
          simp only [putsFrom, upd, Act.put, List.setIfInBounds_toArray, List.set_cons_zero, List.set_cons_succ, Nat.reduceEqDiff, reduceIte] at hz
          exact hz
        · refine wpOp_step rfl (fun K' hK' => ?_)
          simp only [putsFrom, Act.put, List.setIfInBounds_toArray, List.set_cons_zero, List.set_cons_succ]
          go_simp
          refine hK' _ _ ?_
          have hz := hK (.pointer (some ⟨w2.heap.size, 0, none⟩)) (w') (hc.grow (Below.refl _ _) rfl)
          simp only [putsFrom, upd, Act.put, List.setIfInBounds_toArray, List.set_cons_zero, List.set_cons_succ, Nat.reduceEqDiff, reduceIte] at hz
          exact hz
        · refine wpOp_step rfl (fun K' hK' => ?_)
          simp only [putsFrom, Act.put, List.setIfInBounds_toArray, List.set_cons_zero, List.set_cons_succ]
          go_simp
          refine hK' _ _ ?_
          have hz := hK (.slice (some ⟨b, off, none⟩) acts.length cap) (w') (hc.grow (Below.refl _ _) rfl)
          simp only [putsFrom, upd, Act.put, List.setIfInBounds_toArray, List.set_cons_zero, List.set_cons_succ, Nat.reduceEqDiff, reduceIte] at hz
          exact hz
        · refine wpOp_step rfl (fun K' hK' => ?_)
          simp only [putsFrom, Act.put, List.setIfInBounds_toArray, List.set_cons_zero, List.set_cons_succ]
          go_simp
          refine hK' _ _ ?_
          have hz := hK (.int .i64 (i : Int)) (w') (hc.grow (Below.refl _ _) rfl)
          simp only [putsFrom, upd, Act.put, List.setIfInBounds_toArray, List.set_cons_zero, List.set_cons_succ, Nat.reduceEqDiff, reduceIte] at hz
          exact hz
        · have e2 : v 2 = .slice (some ⟨b, off, none⟩) acts.length cap := hc.2 2 (ready_dep hi 2 (by kernel_rfl))
          have e3 : v 3 = .int .i64 (i : Int) := hc.2 3 (ready_dep hi 3 (by kernel_rfl))
          refine wpOp_step rfl (fun K' hK' => ?_)
          simp only [putsFrom, Act.put, List.setIfInBounds_toArray, List.set_cons_zero, List.set_cons_succ]
          go_simp
          refine hK' _ _ ?_
          have hz := hK (.pointer (some ⟨b, off + i * 3, none⟩)) (w') (hc.grow (Below.refl _ _) rfl)
          simp only [putsFrom, upd, Act.put, List.setIfInBounds_toArray, List.set_cons_zero, List.set_cons_succ, Nat.reduceEqDiff, reduceIte, e2, e3] at hz
          exact hz
        · have e4 : v 4 = .pointer (some ⟨b, off + i * 3, none⟩) := hc.2 4 (ready_dep hi 4 (by kernel_rfl))
          refine wpOp_step rfl (fun K' hK' => ?_)
          simp only [putsFrom, Act.put, List.setIfInBounds_toArray, List.set_cons_zero, List.set_cons_succ]
          go_simp
          refine hK' _ _ ?_
          have hz := hK (.pointer (some ⟨b, off + i * 3 + 2, none⟩)) (w') (hc.grow (Below.refl _ _) rfl)
          simp only [putsFrom, upd, Act.put, List.setIfInBounds_toArray, List.set_cons_zero, List.set_cons_succ, Nat.reduceEqDiff, reduceIte, e4] at hz
          exact hz
        · have e5 : v 5 = .pointer (some ⟨b, off + i * 3 + 2, none⟩) := hc.2 5 (ready_dep hi 5 (by kernel_rfl))
          have hcell := (hc.1.cell (p := ⟨b, off + i * 3 + 2, none⟩) fb).trans f2
          have hlt2 : b < w'.heap.size := Nat.lt_of_lt_of_le fb hc.1.size
          refine wpOp_step rfl (fun K' hK' => ?_)
          simp only [putsFrom, Act.put, List.setIfInBounds_toArray, List.set_cons_zero, List.set_cons_succ]
          go_simp
          refine hK' _ _ ?_
          have hz := hK (.int .i64 a.2.2) (w') (hc.grow (Below.refl _ _) rfl)
          simp only [putsFrom, upd, Act.put, List.setIfInBounds_toArray, List.set_cons_zero, List.set_cons_succ, Nat.reduceEqDiff, reduceIte, e5] at hz
          exact hz
        · refine wpOp_step rfl (fun K' hK' => ?_)
          simp only [putsFrom, Act.put, List.setIfInBounds_toArray, List.set_cons_zero, List.set_cons_succ]
          go_simp
          refine hK' _ _ ?_
          have hz := hK (.pointer (some ⟨w2.heap.size, 0, none⟩)) (w') (hc.grow (Below.refl _ _) rfl)
          simp only [putsFrom, upd, Act.put, List.setIfInBounds_toArray, List.set_cons_zero, List.set_cons_succ, Nat.reduceEqDiff, reduceIte] at hz
          exact hz
        · have e7 : v 7 = .pointer (some ⟨w2.heap.size, 0, none⟩) := hc.2 7 (ready_dep hi 7 (by kernel_rfl))
          refine wpOp_step rfl (fun K' hK' => ?_)
          simp only [putsFrom, Act.put, List.setIfInBounds_toArray, List.set_cons_zero, List.set_cons_succ]
          go_simp
          refine hK' _ _ ?_
          have hz := hK (.pointer (some ⟨w2.heap.size, 0, none⟩)) (w') (hc.grow (Below.refl _ _) rfl)
          simp only [putsFrom, upd, Act.put, List.setIfInBounds_toArray, List.set_cons_zero, List.set_cons_succ, Nat.reduceEqDiff, reduceIte, e7] at hz
          exact hz
        · have e8 : v 8 = .pointer (some ⟨w2.heap.size, 0, none⟩) := hc.2 8 (ready_dep hi 8 (by kernel_rfl))
          refine wpOp_step rfl (fun K' hK' => ?_)
          simp only [putsFrom, Act.put, List.setIfInBounds_toArray, List.set_cons_zero, List.set_cons_succ]
          go_simp
          refine hK' _ _ ?_
          have hz := hK (.pointer (some ⟨w2.heap.size, 0, none⟩)) (w') (hc.grow (Below.refl _ _) rfl)
          simp only [putsFrom, upd, Act.put, List.setIfInBounds_toArray, List.set_cons_zero, List.set_cons_succ, Nat.reduceEqDiff, reduceIte, e8] at hz
          exact hz
        · have e9 : v 9 = .pointer (some ⟨w2.heap.size, 0, none⟩) := hc.2 9 (ready_dep hi 9 (by kernel_rfl))
          have hcell := (hc.1.cell (p := ⟨w2.heap.size, 0, none⟩) c3).trans c1
          have hlt2 : w2.heap.size < w'.heap.size := Nat.lt_of_lt_of_le c3 hc.1.size
          refine wpOp_step rfl (fun K' hK' => ?_)
          simp only [putsFrom, Act.put, List.setIfInBounds_toArray, List.set_cons_zero, List.set_cons_succ]
          go_simp
          refine hK' _ _ ?_
          have hz := hK (.slice p2 R'.length cap2) (w') (hc.grow (Below.refl _ _) rfl)
          simp only [putsFrom, upd, Act.put, List.setIfInBounds_toArray, List.set_cons_zero, List.set_cons_succ, Nat.reduceEqDiff, reduceIte, e9] at hz
          exact hz
        · have e10 : v 10 = .slice p2 R'.length cap2 := hc.2 10 (ready_dep hi 10 (by kernel_rfl))
          refine wpOp_step rfl (fun K' hK' => ?_)
          simp only [putsFrom, Act.put, List.setIfInBounds_toArray, List.set_cons_zero, List.set_cons_succ]
          go_simp
          refine hK' _ _ ?_
          have hz := hK (.int .i64 (R'.length : Int)) (w') (hc.grow (Below.refl _ _) rfl)
          simp only [putsFrom, upd, Act.put, List.setIfInBounds_toArray, List.set_cons_zero, List.set_cons_succ, Nat.reduceEqDiff, reduceIte, e10] at hz
          exact hz
        · have e11 : v 11 = .int .i64 (R'.length : Int) := hc.2 11 (ready_dep hi 11 (by kernel_rfl))
          have hwr : IntKind.i64.wrap ((R'.length : Int) + 2) = (R'.length : Int) + 2 := by rw [IntKind.wrap_i64]; omega
          refine wpOp_step rfl (fun K' hK' => ?_)
          simp only [putsFrom, Act.put, List.setIfInBounds_toArray, List.set_cons_zero, List.set_cons_succ]
          go_simp
          refine hK' _ _ ?_
          have hz := hK (.int .i64 ((R'.length : Int) + 2)) (w') (hc.grow (Below.refl _ _) rfl)
          simp only [putsFrom, upd, Act.put, List.setIfInBounds_toArray, List.set_cons_zero, List.set_cons_succ, Nat.reduceEqDiff, reduceIte, e11] at hz
          exact hz
        · have e6 : v 6 = .int .i64 a.2.2 := hc.2 6 (ready_dep hi 6 (by kernel_rfl))
          have e12 : v 12 = .int .i64 ((R'.length : Int) + 2) := hc.2 12 (ready_dep hi 12 (by kernel_rfl))
          refine wpOp_step rfl (fun K' hK' => ?_)
          simp only [putsFrom, Act.put, List.setIfInBounds_toArray, List.set_cons_zero, List.set_cons_succ]
          go_simp
          go_at_call 20
          refine (rest_any a.2.2 ((R'.length : Int) + 2) (by omega) _).mono ?_
          rintro e w5 ⟨rfl, rfl⟩
          refine hK' _ _ ?_
          have hz := hK (.int .i64 (restF a.2.2 ((R'.length : Int) + 2))) (w5) (hc.grow (Below.refl _ _) rfl)
          simp only [putsFrom, upd, Act.put, List.setIfInBounds_toArray, List.set_cons_zero, List.set_cons_succ, Nat.reduceEqDiff, reduceIte, e6, e12] at hz
          exact hz
        · have e13 : v 13 = .int .i64 (restF a.2.2 ((R'.length : Int) + 2)) := hc.2 13 (ready_dep hi 13 (by kernel_rfl))
          have hrb1 := (restF_bd a.2.2 ((R'.length : Int) + 2) (by omega)).1
          have hrb2 := (restF_bd a.2.2 ((R'.length : Int) + 2) (by omega)).2
          have hwr : IntKind.i64.wrap (restF a.2.2 ((R'.length : Int) + 2) - 1) = restF a.2.2 ((R'.length : Int) + 2) - 1 := by rw [IntKind.wrap_i64]; omega
          refine wpOp_step rfl (fun K' hK' => ?_)
          simp only [putsFrom, Act.put, List.setIfInBounds_toArray, List.set_cons_zero, List.set_cons_succ]
          go_simp
          refine hK' _ _ ?_
          have hz := hK (.int .i64 (restF a.2.2 ((R'.length : Int) + 2) - 1)) (w') (hc.grow (Below.refl _ _) rfl)
          simp only [putsFrom, upd, Act.put, List.setIfInBounds_toArray, List.set_cons_zero, List.set_cons_succ, Nat.reduceEqDiff, reduceIte, e13] at hz
          exact hz
        · have e0 : v 0 = .pointer (some ⟨w1.heap.size + 1, 0, none⟩) := hc.2 0 (ready_dep hi 0 (by kernel_rfl))
          have e1 : v 1 = .pointer (some ⟨w2.heap.size, 0, none⟩) := hc.2 1 (ready_dep hi 1 (by kernel_rfl))
          have e14 : v 14 = .int .i64 (restF a.2.2 ((R'.length : Int) + 2) - 1) := hc.2 14 (ready_dep hi 14 (by kernel_rfl))
          refine wpOp_step rfl (fun K' hK' => ?_)
          simp only [putsFrom, Act.put, List.setIfInBounds_toArray, List.set_cons_zero, List.set_cons_succ]
          go_simp
          go_at_call 19
          refine (same_any (HB4.out.below hc.1) (by omega) (by omega) _).mono ?_
          rintro e w5 ⟨rfl, hb5⟩
          refine hK' _ _ ?_
          have hz := hK (.bool true) (w5) (hc.grow (hb5) rfl)
          simp only [putsFrom, upd, Act.put, List.setIfInBounds_toArray, List.set_cons_zero, List.set_cons_succ, Nat.reduceEqDiff, reduceIte, e0, e1, e14] at hz
          exact hz
        · have e15 : v 15 = .bool true := hc.2 15 (ready_dep hi 15 (by kernel_rfl))
          refine wpOp_step rfl (fun K' hK' => ?_)
          simp only [putsFrom, Act.put, List.setIfInBounds_toArray, List.set_cons_zero, List.set_cons_succ]
          go_simp
          refine hK' _ _ ?_
          have hz := hK (.bool true) (w') (hc.grow (Below.refl _ _) rfl)
          simp only [putsFrom, upd, Act.put, List.setIfInBounds_toArray, List.set_cons_zero, List.set_cons_succ, Nat.reduceEqDiff, reduceIte, e15] at hz
          exact hz
      · have hb5 := hc.1
        have e16 : v 16 = .bool true := hc.2 16 (hall 16 (by omega))
        have hbo5 := HB4.out.below hb5
        clear hc hall
        simp only [putsFrom, Act.put, List.setIfInBounds_toArray, List.set_cons_zero, List.set_cons_succ]
        rw [e16]
        clear e16
        generalize v 0 = y0, v 1 = y1, v 2 = y2, v 3 = y3, v 4 = y4, v 5 = y5, v 6 = y6, v 7 = y7, v 8 = y8, v 9 = y9, v 10 = y10, v 11 = y11, v 12 = y12, v 13 = y13, v 14 = y14, v 15 = y15
        clear v
        have hch5 := hch'.below hb5
        have href5 := href'.below hb5
        have hrel : PlaysRel w w1.heap.size (w1.heap.size + 1) w1.heap.size w2.heap.size acts.length (.int .i64 ((i : Int) + 1)) w5 :=
          ⟨M', R', i + 1, by simp, by omega, by omega, by omega, by rw [show ((i + 1 : Nat) : Int) = (i : Int) + 1 from by omega]; exact hbo5, HBL.out.1.trans (hb5.mono HBL.out.1.size)⟩
        clear hch' href' hb5 hbo5 c1 c3 f2 fb
        go_wp2_with fail
        go_at_call 14
        refine (live_is hch5 hlive).mono ?_
        rintro e w6 ⟨rfl, rfl⟩
        go_wp2_with fail
        go_at_call 21
        refine (rlive_any href5 (by omega)).mono ?_
        rintro e w6 ⟨rfl, rfl⟩
        clear hch5 href5
        go_wp2_with fail
        go_roundw
        case rel => exact hrel
        case measure => simp only [intOf]; omega
    · have hstop : (i : Int) < (acts.length : Int) → ¬ (i : Int) < 50 := by omega
      obtain ⟨wa, rfl⟩ : ∃ wa, wa = wr := ⟨_, rfl⟩
      have hR50 : R.length ≤ 50 := by omega
      have hs4 := hbel.size
      obtain ⟨X', v', hch', href', _, _, _, hsim', _⟩ := hbo
      obtain ⟨p2, cap2, rfl⟩ : ∃ p' cap', v' = .slice p' R.length cap' := by
        rcases href'.cells.2.2.2 with ⟨e, e2⟩ | ⟨g, cap, e, _⟩
        · exact ⟨none, 0, by rw [e, e2]; rfl⟩
        · exact ⟨_, cap, e⟩
      obtain ⟨c1, c2, c3, _⟩ := href'.cells
      have HC := Lib.hid (And.intro c1 (And.intro c3 hbel))
      clear hch' href' hsim' c1 c2 c3 hlt hbel
      by_cases hsp : i < acts.length
      case' pos =>
        have hsp2 := hstop (by omega)
        clear hstop
        go_wp2_with fail
      case' neg =>
        clear hstop
        go_wp2_with fail
      all_goals
        go_loopw [9] (fun vi w5 => ∃ id : Int, -1 ≤ id ∧ id ≤ (R.length : Int) + 1 ∧ vi = .int .i64 id ∧ Below wa.heap.size wa w5) (fun vi _ => (R.length + 1 - intOf vi).toNat)
        case atStart => exact ⟨-1, by omega, by omega, rfl, Below.refl _ _⟩
        case round =>
          obtain ⟨id, hid1, hid2, rfl, hb7⟩ := hrel
          have hsz := hb7.size
          have c1 := (hb7.cell (p := ⟨w2.heap.size, 0, none⟩) HC.out.2.1).trans HC.out.1
          have c3 : w2.heap.size < wr.heap.size := Nat.lt_of_lt_of_le HC.out.2.1 hsz
          by_cases hidl : id ≤ (R.length : Int)
          · go_wp2_with fail
            go_at_call 19
            refine (same_any (HBO.out.below hb7) (by omega) (by omega) _).mono ?_
            rintro e w8 ⟨rfl, hb8⟩
            have hrel : ∃ id' : Int, -1 ≤ id' ∧ id' ≤ (R.length : Int) + 1 ∧ (Value.int IntKind.i64 (id + 1)) = .int .i64 id' ∧ Below wa.heap.size wa w8 := ⟨id + 1, by omega, by omega, rfl, hb7.trans (hb8.mono hsz)⟩
            clear c1 c3
            go_wp2_with fail
            go_roundw
            case rel => exact hrel
            case measure => simp only [intOf]; omega
          · have hend : Below w.heap.size w wr := HC.out.2.2.trans (hb7.mono hs4)
            go_wp2_with fail
            go_ret
            exact ⟨rfl, hend⟩

end Go.Proofs.Ythflfafenehofaa
