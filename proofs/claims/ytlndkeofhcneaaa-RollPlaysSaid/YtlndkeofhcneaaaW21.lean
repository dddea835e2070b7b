/-
  The walk of RollPlays.
-/
import Derived.Test.YtlndkeofhcneaaaW20
namespace Go.Proofs.Ytlndkeofhcneaaa
open Go.RowKit Go.Shelf

attribute [local go_sem] Oper.semAt_some

def PlaysRel (w : World) (n : Nat) (vr vl vi : Value) (wr : World) : Prop :=
  ∃ (C D : List EN) (pr : Option Addr) (i : Nat), vr = .pointer pr ∧ vi = .int .i64 (i : Int) ∧ Both wr (.pointer pr) vl C D ∧ C.length ≤ i ∧ i ≤ 30 ∧ i ≤ n ∧ Below w.heap.size w wr

set_option maxHeartbeats 4000000 in
set_option maxRecDepth 100000 in
theorem plays_any {w : World} {v : Value} {acts : List AC} (hv : IsActs w v acts) (at_ : Int) :
    Calls Try.prog 3 #[v, .int .i64 at_] w fun e w' => e = .returned (.bool true) ∧ Below w.heap.size w w' := by
  obtain ⟨pn, capn, rfl, hc⟩ := hv
  have HN := Lib.hid hc
  clear hc
  go_enter Try.func3, Try.ntmps3
  go_wp2_with fail
  go_at_call 7
  refine (awake_any w).mono ?_
  rintro e w1 ⟨rfl, hb1⟩
  have hst : PlaysRel w acts.length (.pointer none) (.slice none 0 0) (.int .i64 0) w1 :=
    ⟨[], [], none, 0, rfl, rfl, Both.nil w1, Nat.le_refl _, by omega, Nat.zero_le _, hb1⟩
  go_wp2_with fail
  go_loopw [6, 7, 8] (fun vr vl vi wr => PlaysRel w acts.length vr vl vi wr) (fun _ _ vi _ => 30 - (intOf vi).toNat)
  case atStart => exact hst
  case round =>
    clear hst
    obtain ⟨C, D, pr, i, rfl, rfl, H, hCi, hi30, hin, hbw⟩ := hrel
    have hlD : D.length ≤ 30 := by have := H.alike.len; omega
    obtain ⟨pl, cl, rfl⟩ := H.row.slice
    have HH := Lib.hid H
    have HW := Lib.hid hbw
    by_cases hlt : i < acts.length ∧ i < 30
    · obtain ⟨hlt1, hlt2⟩ := hlt
      obtain ⟨x, hx⟩ : ∃ a, acts[i]? = some a := ⟨_, List.getElem?_eq_getElem hlt1⟩
      obtain ⟨b, off, rfl, hbl, c0, c1, c2, c3⟩ := HN.out _ _ hx
      have d0 := (hbw.cell (p := ⟨b, off + i * 4, none⟩) hbl).trans c0
      have d1 := (hbw.cell (p := ⟨b, off + i * 4 + 1, none⟩) hbl).trans c1
      have d2 := (hbw.cell (p := ⟨b, off + i * 4 + 2, none⟩) hbl).trans c2
      have d3 := (hbw.cell (p := ⟨b, off + i * 4 + 3, none⟩) hbl).trans c3
      have db : b < wr.heap.size := Nat.lt_of_lt_of_le hbl hbw.size
      obtain ⟨xf, xn, xi, xt⟩ := x
      dsimp only at d0 d1 d2 d3
      clear hx c0 c1 c2 c3 hbl H hbw
      go_wp2_with fail
      obtain ⟨w2, e2⟩ : ∃ w2, wr.alloc (Obj.cells #[.bool xf, .bool xn, .int .i64 xi, .int .i64 xt] 27) = w2 := ⟨_, rfl⟩
      have z2 : w2.heap[wr.heap.size]? = some (.cells #[.bool xf, .bool xn, .int .i64 xi, .int .i64 xt] 27) := by rw [← e2]; exact blk_new _ _
      have hb2 : Below wr.heap.size wr w2 := by rw [← e2]; exact below_alloc _ _
      rw [e2]
      clear e2
      generalize wr.heap.size = b9 at z2 ⊢
      have Z2 := Lib.hid z2
      have HB2 := Lib.hid hb2
      clear z2 hb2 d0 d1 d2 d3 db
      go_at_call 8
      refine (numbers_any xf xn xi xt w2).mono ?_
      rintro e w3 ⟨a, t, rfl, hb3⟩
      have z3 := (hb3.block _ (blk_lt Z2.out)).trans Z2.out
      have d0 := blk_cell z3 0
      have dl := blk_lt z3
      simp only [List.getElem?_toArray, List.getElem?_cons_zero] at d0
      have H3 := Lib.hid (HH.out.below (below_then HB2.out hb3))
      have HW3 := Lib.hid (below_then HW.out (below_then HB2.out hb3))
      clear z3 hb3
      cases xf
      · obtain ⟨vr, hr⟩ := H3.out.roll
        rcases add_cases C a with hy | hno
        · go_wp2_with fail
          go_at_call 12
          refine (kind_any _ _).mono ?_
          rintro e wk ⟨bk, ck, rfl, htk, hbk⟩
          go_wp2_with fail
          go_at_call 11
          refine (add_yes (hr.below hbk) a (some ⟨bk, 0, none⟩) 1 ck (i : Nat) (by omega) htk hy).mono ?_
          rintro e w4 ⟨hb4, r4, v4, rfl, hr4⟩
          obtain ⟨p4, rfl⟩ := hr4.cell'
          go_wp2_with fail
          go_at_call 12
          refine (kind_any _ _).mono ?_
          rintro e wm ⟨bm, cm, rfl, htm, hbm⟩
          have hb5k := below_then hbk (below_then hb4 hbm)
          go_wp2_with fail
          go_at_call 13
          refine (rAdd_yes (H3.out.row.below hb5k) a (some ⟨bm, 0, none⟩) 1 cm (i : Nat) (by omega) htm (H3.out.alike.addYes hy)).mono ?_
          rintro e w5 ⟨hb5, v5, rfl, hd5⟩
          obtain ⟨CC, DD, hB5, hlc⟩ : ∃ CC DD, Both w5 (.pointer p4) v5 CC DD ∧ CC.length ≤ i + 1 := ⟨_, _, ⟨⟨v4, hr4.below (below_then hbm hb5)⟩, hd5, H3.out.alike.snoc ⟨rfl, rfl, rfl, rfl, rfl⟩, H3.out.asc.snoc fun e he => hy.2 e he⟩, by simp; omega⟩
          clear hr4 hd5
          obtain ⟨p5, c5, rfl⟩ := hB5.row.slice
          have hW5 := below_then HW3.out (below_then hb5k hb5)
          have HX := Lib.hid (And.intro hB5 hW5)
          clear hB5 hW5 hb4 hb5 d0 dl hbk hbm htk htm hb5k
          go_wp2_with fail
          go_at_call 14
          have hbz := below_alloc w5 (Obj.cells #[Value.slice p5 DD.length c5, .bool true] 33)
          obtain ⟨vf, hrf⟩ := HX.out.1.roll
          refine (tells_any (hrf.below hbz) (HX.out.1.row.below hbz) HX.out.1.alike HX.out.1.asc (by omega) at_).mono ?_
          rintro e w7 ⟨rfl, hb7⟩
          have HY := Lib.hid (And.intro (HX.out.1.below (below_then hbz hb7)) (below_then HX.out.2 (below_then hbz hb7)))
          clear hbz hb7 hrf
          go_wp2_with fail
          refine ⟨⟨_, _, _, i + 1, rfl, by simp, HY.out.1, by omega, by omega, by omega, HY.out.2⟩, ?_⟩
          simp only [intOf]
          omega
        · go_wp2_with fail
          go_at_call 12
          refine (kind_any _ _).mono ?_
          rintro e wk ⟨bk, ck, rfl, htk, hbk⟩
          go_wp2_with fail
          go_at_call 11
          refine (add_no (hr.below hbk) a (some ⟨bk, 0, none⟩) 1 ck (i : Nat) (by omega) hno).mono ?_
          rintro e w4 ⟨rfl, hb4⟩
          go_wp2_with fail
          go_at_call 12
          refine (kind_any _ _).mono ?_
          rintro e wm ⟨bm, cm, rfl, htm, hbm⟩
          have hb5k := below_then hbk (below_then hb4 hbm)
          go_wp2_with fail
          go_at_call 13
          refine (rAdd_no (H3.out.row.below hb5k) a (some ⟨bm, 0, none⟩) 1 cm (i : Nat) (by omega) (H3.out.alike.addNo hno)).mono ?_
          rintro e w5 ⟨rfl, hb5⟩
          have hB5 := H3.out.below (below_then hb5k hb5)
          have hlc : C.length ≤ i + 1 := by omega
          have hW5 := below_then HW3.out (below_then hb5k hb5)
          have HX := Lib.hid (And.intro hB5 hW5)
          clear hB5 hW5 hb4 hb5 d0 dl hbk hbm htk htm hb5k
          go_wp2_with fail
          rw [run_neq_roll]
          go_wp2_with fail
          go_at_call 14
          have hbz := below_alloc w5 (Obj.cells #[Value.slice pl D.length cl, .bool false] 33)
          obtain ⟨vf, hrf⟩ := HX.out.1.roll
          refine (tells_any (hrf.below hbz) (HX.out.1.row.below hbz) HX.out.1.alike HX.out.1.asc (by omega) at_).mono ?_
          rintro e w7 ⟨rfl, hb7⟩
          have HY := Lib.hid (And.intro (HX.out.1.below (below_then hbz hb7)) (below_then HX.out.2 (below_then hbz hb7)))
          clear hbz hb7 hrf
          go_wp2_with fail
          refine ⟨⟨_, _, _, i + 1, rfl, by simp, HY.out.1, by omega, by omega, by omega, HY.out.2⟩, ?_⟩
          simp only [intOf]
          omega
      · obtain ⟨vr, hr⟩ := H3.out.roll
        rcases end_cases C a t with ⟨k, c, hy⟩ | hno
        · obtain ⟨d, q1, q2, q3, q4⟩ := H3.out.alike.endYes hy
          obtain ⟨y1, y2, y3, y4⟩ := hy
          go_wp2_with fail
          go_at_call 9
          refine (end_yes hr H3.out.asc a t (by omega) k c y1 y2 y3 y4).mono ?_
          rintro e w4 ⟨hb4, r4, v4, rfl, hr4⟩
          obtain ⟨p4, rfl⟩ := hr4.cell'
          go_wp2_with fail
          go_at_call 10
          refine (rEnd_yes (H3.out.row.below hb4) (H3.out.alike.asc H3.out.asc) a t (by omega) k d q1 q2 q3 q4).mono ?_
          rintro e w5 ⟨hb5, v5, rfl, hd5⟩
          obtain ⟨CC, DD, hB5, hlc⟩ : ∃ CC DD, Both w5 (.pointer p4) v5 CC DD ∧ CC.length ≤ i + 1 := ⟨_, _, ⟨⟨v4, hr4.below hb5⟩, hd5, H3.out.alike.setTo y1 q1 t, H3.out.asc.set y1 t⟩, by simp; omega⟩
          clear hr4 hd5
          obtain ⟨p5, c5, rfl⟩ := hB5.row.slice
          have hW5 := below_then HW3.out (below_then hb4 hb5)
          have HX := Lib.hid (And.intro hB5 hW5)
          clear hB5 hW5 hb4 hb5 d0 dl
          go_wp2_with fail
          go_at_call 14
          have hbz := below_alloc w5 (Obj.cells #[Value.slice p5 DD.length c5, .bool true] 33)
          obtain ⟨vf, hrf⟩ := HX.out.1.roll
          refine (tells_any (hrf.below hbz) (HX.out.1.row.below hbz) HX.out.1.alike HX.out.1.asc (by omega) at_).mono ?_
          rintro e w7 ⟨rfl, hb7⟩
          have HY := Lib.hid (And.intro (HX.out.1.below (below_then hbz hb7)) (below_then HX.out.2 (below_then hbz hb7)))
          clear hbz hb7 hrf
          go_wp2_with fail
          refine ⟨⟨_, _, _, i + 1, rfl, by simp, HY.out.1, by omega, by omega, by omega, HY.out.2⟩, ?_⟩
          simp only [intOf]
          omega
        · go_wp2_with fail
          go_at_call 9
          refine (end_no hr H3.out.asc a t (by omega) hno).mono ?_
          rintro e w4 ⟨rfl, hb4⟩
          go_wp2_with fail
          go_at_call 10
          refine (rEnd_no (H3.out.row.below hb4) (H3.out.alike.asc H3.out.asc) a t (by omega) (H3.out.alike.endNo hno)).mono ?_
          rintro e w5 ⟨rfl, hb5⟩
          have hB5 := H3.out.below (below_then hb4 hb5)
          have hlc : C.length ≤ i + 1 := by omega
          have hW5 := below_then HW3.out (below_then hb4 hb5)
          have HX := Lib.hid (And.intro hB5 hW5)
          clear hB5 hW5 hb4 hb5 d0 dl
          go_wp2_with fail
          rw [run_neq_roll]
          go_wp2_with fail
          go_at_call 14
          have hbz := below_alloc w5 (Obj.cells #[Value.slice pl D.length cl, .bool false] 33)
          obtain ⟨vf, hrf⟩ := HX.out.1.roll
          refine (tells_any (hrf.below hbz) (HX.out.1.row.below hbz) HX.out.1.alike HX.out.1.asc (by omega) at_).mono ?_
          rintro e w7 ⟨rfl, hb7⟩
          have HY := Lib.hid (And.intro (HX.out.1.below (below_then hbz hb7)) (below_then HX.out.2 (below_then hbz hb7)))
          clear hbz hb7 hrf
          go_wp2_with fail
          refine ⟨⟨_, _, _, i + 1, rfl, by simp, HY.out.1, by omega, by omega, by omega, HY.out.2⟩, ?_⟩
          simp only [intOf]
          omega
    · clear H hbw
      go_wp2_with fail
      all_goals
        go_ret
        exact ⟨rfl, HW.out⟩

end Go.Proofs.Ytlndkeofhcneaaa
