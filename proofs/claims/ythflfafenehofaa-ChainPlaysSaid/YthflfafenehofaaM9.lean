/-
  The walk of same.
-/
import Derived.Test.YthflfafenehofaaP5
namespace Go.Proofs.Ythflfafenehofaa
open Go.RowKit Go.Shelf

attribute [local go_sem] Oper.semAt_some

theorem pathR_ex {R : List RN} (hpr : ∀ (j : Nat) (r : RN), R[j]? = some r → r.prev < (j : Int)) : ∀ (N : Nat) (k : Int), k < N → k < R.length → ∃ ys, PathR R k ys := by
  intro N
  induction N with
  | zero => intro k h _; exact ⟨[], .nil (by omega)⟩
  | succ N ih =>
    intro k h hl
    by_cases h0 : k < 0
    · exact ⟨[], .nil h0⟩
    · obtain ⟨j, rfl⟩ : ∃ j : Nat, k = (j : Int) := ⟨k.toNat, by omega⟩
      obtain ⟨r, hr⟩ : ∃ r, R[j]? = some r := ⟨_, List.getElem?_eq_getElem (by omega)⟩
      have hp := hpr j r hr
      obtain ⟨ys, hy⟩ := ih r.prev (by omega) (by omega)
      exact ⟨r :: ys, .cons hr hy⟩

set_option maxHeartbeats 1000000 in
theorem rsets_no {B : Nat} {W : World} {m : Nat} {v : Value} {R : List RN} (h : IsRef B W m v R) (k : Int) (hi : isR R k = false) :
    Calls Try.prog 32 #[.pointer (some ⟨m, 0, none⟩), .int .i64 k] W fun e w' => e = .returned (.slice none 0 0) ∧ W = w' := by
  go_enter Try.func32, Try.ntmps32
  go_wp2_with (go_at_call 30; refine (rpath_no h k hi).mono ?_; rintro e w1 ⟨rfl, rfl⟩)
  go_loopw [5, 7] (fun vo vi wr => vo = .slice none 0 0 ∧ vi = .int .i64 0 ∧ wr = W) (fun _ _ _ => 0)
  case atStart => exact ⟨rfl, rfl, rfl⟩
  case round =>
    obtain ⟨rfl, rfl, rfl⟩ := hrel
    go_wp2_with fail
    go_ret
    exact ⟨rfl, rfl⟩

theorem rows_none (R : Nat → Prop) (w : World) : IsRows R w (.slice none 0 0) [] := ⟨none, 0, rfl, fun i xs h => by simp at h⟩

set_option maxHeartbeats 4000000 in
set_option maxRecDepth 100000 in
theorem same_any {B c mb m : Nat} {W : World} {M : CS} {R : List RN} {K : Int} (h : Both B c mb m W M R K) (hl : R.length ≤ 100) (hK : 0 ≤ K ∧ K ≤ 900) (id : Int) :
    Calls Try.prog 19 #[.pointer (some ⟨c, 0, none⟩), .pointer (some ⟨m, 0, none⟩), .int .i64 id] W fun e w' => e = .returned (.bool true) ∧ Below W.heap.size W w' := by
  obtain ⟨X, v, hch, href, hXY, hXB, hBm, hsim, hkK⟩ := h
  have hok := hsim.okR hkK (by omega)
  have hct := hsim.count id
  have hkb : ∀ (j : Nat) (r : RN), R[j]? = some r → -100000 ≤ r.kept ∧ r.kept ≤ 100000 := fun j r hr => (hok j r hr).1
  have hpr : ∀ (j : Nat) (r : RN), R[j]? = some r → r.prev < (j : Int) := fun j r hr => (hok j r hr).2
  obtain ⟨cb1, cb2⟩ := cntR_bd hok (by omega) id
  rcases hsim.get id with ⟨g1, g2⟩ | ⟨j, r, n, rfl, hr, hgn, g1, g2, e1, e2, e3, e4, e5, e6⟩
  · have hP : Path M id [] := .nil g2
    have HH := Lib.hid (And.intro hkb (And.intro hct g2))
    clear hok hkb hpr hsim hkK hct g2 hXY hXB
    go_enter Try.func19, Try.ntmps19
    go_wp2_with fail
    go_at_call 15
    refine (back_any hch id [] hP (by simp)).mono ?_
    rintro e w3 ⟨vo, rfl, hown, hb3⟩
    obtain ⟨po, co, rfl, _⟩ := refs_form (l := []) hown
    have hch3 := hch.below hb3
    have href3 := href.below hb3
    clear hown hch href hP
    go_wp2_with (first | (go_at_call 30; refine (rpath_no href3 id g1).mono ?_; rintro e w4 ⟨rfl, rfl⟩) | (go_at_call 18; refine (count_any hch3 id).mono ?_; rintro e w4 ⟨rfl, rfl⟩; rw [HH.out.2.1]) | (go_at_call 31; refine (rcount_any href3 (by omega) id HH.out.1).mono ?_; rintro e w4 ⟨rfl, rfl⟩) | (go_at_call 13; refine (sets_no hch3 id HH.out.2.2).mono ?_; rintro e w4 ⟨rfl, rfl⟩) | (go_at_call 32; refine (rsets_no href3 id g1).mono ?_; rintro e w4 ⟨rfl, rfl⟩))
    go_at_call 12
    refine (cmp_same (rows_none (fun _ => True) _) (rows_none (fun _ => True) _) (by simp) (fun xs h => by cases h)).mono ?_
    rintro e w4 ⟨rfl, hb4⟩
    go_wp2_with fail
    go_loopw [9] (fun vi wr => vi = .int .i64 0 ∧ wr = w4) (fun _ _ => 0)
    case atStart => exact ⟨rfl, rfl⟩
    case round =>
      obtain ⟨rfl, rfl⟩ := hrel
      go_wp2_with fail
      go_ret
      exact ⟨rfl, hb3.trans (hb4.mono hb3.size)⟩
  · obtain ⟨ys, hys⟩ := pathR_ex hpr (j + 1) (j : Int) (by omega) (by have := (List.getElem?_eq_some_iff.1 hr).1; omega)
    obtain ⟨xs, hP, hmap⟩ := sim_path hsim hys (.inr g1)
    have hlen : xs.length = ys.length := by simpa using congrArg List.length hmap
    have hjl := (List.getElem?_eq_some_iff.1 hr).1
    obtain ⟨hd1, hd2, hd3⟩ := path_desc hsim hys
    rw [if_pos (by omega)] at hd3
    have hyl : ys.length ≤ 100 := by omega
    have hrise := path_rise hsim hys
    have hy0 : ys[0]? = some r := by
      generalize hk : (j : Int) = k at hys
      cases hys with
      | nil h => omega
      | @cons j' r' xs' hr' h' =>
        obtain rfl : j = j' := by omega
        rw [hr] at hr'; injection hr' with hr'; subst hr'; rfl
    have hpos : 0 < ys.length := (List.getElem?_eq_some_iff.1 hy0).1
    have hcl := hsim.cell j r hr
    have hxc : ∀ q ∈ xs, 0 ≤ q.cell ∧ q.cell ≤ n.cell := fun q hq => by
      obtain ⟨i, hi⟩ := List.getElem?_of_mem hq
      have hil := (List.getElem?_eq_some_iff.1 hi).1
      obtain ⟨b, hb⟩ : ∃ b, ys[i]? = some b := ⟨_, List.getElem?_eq_getElem (by omega)⟩
      have h1 : (xs.map nk)[i]? = (ys.map rk)[i]? := by rw [hmap]
      rw [List.getElem?_map, List.getElem?_map, hi, hb] at h1
      have h2 : q.cell = b.cell := by simpa [nk, rk] using congrArg (fun t => t.map (·.1)) h1
      have h3 := hd1 b (List.mem_of_getElem? hb)
      have h4 := hd2 0 i r b (by omega) hy0 hb
      omega
    have hmm : n.cell + 1 = ((r.cell + 1).toNat : Int) := by omega
    have hsets : setsS (r.cell + 1).toNat xs = rowsOf (mR ys.reverse ys.length) (prR ys.reverse) := by
      rw [setsS_eq _ _ (fun q hq => (hxc q hq).1), rows_same hmap, mR_rev hy0]
    have hsl : (rowsOf (mR ys.reverse ys.length) (prR ys.reverse)).length ≤ 1000000 := by rw [rowsOf_length, mR_rev hy0]; omega
    have hsl2 : ∀ z ∈ rowsOf (mR ys.reverse ys.length) (prR ys.reverse), z.length ≤ 1000000 := fun z hz => by
      have := rowsOf_le _ _ z hz
      have h2 : (prR ys.reverse).length = ys.length := by simp [prR]
      omega
    have hxl : xs.length ≤ 1000000 := by omega
    have HH := Lib.hid (And.intro hkb (And.intro hct (And.intro hpr (And.intro hys (And.intro hxc (And.intro hsets (And.intro hsl (And.intro hsl2 (And.intro hmap (And.intro hmm (And.intro hrise hlen)))))))))))
    clear hok hkb hpr hsim hkK hct hXY hXB hr hgn e1 e2 e3 e4 e5 e6 hd1 hd2 hd3 hrise hy0 hxc hsets hsl hsl2 hys hmap hmm hlen
    go_enter Try.func19, Try.ntmps19
    go_wp2_with fail
    go_at_call 15
    refine (back_any hch _ xs hP hxl).mono ?_
    rintro e w3 ⟨vo, rfl, hown, hb3⟩
    have hown' : w3.ownsRow W.heap.size 31 2 vo (xs.map refOf).length (refv (xs.map refOf)) := by rw [List.length_map]; exact hown
    obtain ⟨po, co, rfl, hfo⟩ := refs_form hown'
    have hch3 := hch.below hb3
    have href3 := href.below hb3
    have HF := Lib.hid hfo
    rw [List.length_map, HH.out.2.2.2.2.2.2.2.2.2.2.2]
    clear hown hown' hfo hch href
    go_wp2_with fail
    go_at_call 30
    refine (rpath_yes href3 HH.out.2.2.1 (by omega) g1).mono ?_
    rintro e w4 ⟨vp, ys2, rfl, hys2, hownp, hb4⟩
    obtain rfl := PathR.uniq HH.out.2.2.2.1 hys2
    obtain ⟨pp, cp, rfl⟩ : ∃ pp cp, vp = .slice pp ys.length cp := by
      rcases hownp.2 with ⟨rfl, e2⟩ | ⟨g, cap, cur, rfl, _⟩
      · exact ⟨none, 0, by rw [e2]⟩
      · exact ⟨_, cap, rfl⟩
    have hfp : ∀ (i : Nat) (q : RN), ys.reverse[i]? = some q → ∃ g, pp = some ⟨g, 0, none⟩ ∧ g < w4.heap.size ∧ w4.cell? ⟨g, i * 7 + 3, none⟩ = some (.int .i64 q.slot) ∧ w4.cell? ⟨g, i * 7 + 4, none⟩ = some (.int .i64 q.gen) := fun i q hq => by
      have hil := (List.getElem?_eq_some_iff.1 hq).1
      rw [List.length_reverse] at hil
      rcases id hownp with ⟨hl', ⟨e, h2⟩ | ⟨g, cap, cur, e, hg, hb, hc, hm, hs, ht⟩⟩
      · omega
      · injection e with ea eb ec
        subst ea
        subst ec
        refine ⟨g, rfl, blk_lt hb, ?_, ?_⟩
        · rw [hownp.cellAt (i * 7 + 3) (by omega)]; exact rnv_get ys.reverse i 3 q hq (by omega)
        · rw [hownp.cellAt (i * 7 + 4) (by omega)]; exact rnv_get ys.reverse i 4 q hq (by omega)
    have hch4 := hch3.below hb4
    have href4 := href3.below hb4
    have HG := Lib.hid hfp
    clear hownp hfp hys2 hch3 href3
    go_wp2_with (first | (go_at_call 18; refine (count_any hch4 _).mono ?_; rintro e w5 ⟨rfl, rfl⟩; rw [HH.out.2.1]) | (go_at_call 31; refine (rcount_any href4 (by omega) _ HH.out.1).mono ?_; rintro e w5 ⟨rfl, rfl⟩))
    go_at_call 13
    refine (sets_yes hch4 _ n xs g2 hP HH.out.2.2.2.2.1 _ HH.out.2.2.2.2.2.2.2.2.2.1 (by omega) hxl).mono ?_
    rintro e w5 ⟨vs, rfl, hvs, hb5⟩
    rw [HH.out.2.2.2.2.2.1] at hvs
    have href5 := href4.below hb5
    clear hch4 href4
    go_wp2_with fail
    go_at_call 32
    refine (rsets_yes href5 HH.out.2.2.1 hl g1 (fun zs hz => by
      obtain rfl := PathR.uniq HH.out.2.2.2.1 hz
      exact ⟨HH.out.2.2.2.2.2.2.2.2.2.2.1, hyl⟩)).mono ?_
    rintro e w6 ⟨vr, ys3, rfl, hys3, hvr, hb6⟩
    obtain rfl := PathR.uniq HH.out.2.2.2.1 hys3
    have hvs6 := hvs.below hb6
    clear hvs href5 hys3
    go_wp2_with fail
    go_at_call 12
    refine (cmp_same hvs6 hvr HH.out.2.2.2.2.2.2.1 HH.out.2.2.2.2.2.2.2.1).mono ?_
    rintro e w7 ⟨rfl, hb7⟩
    have hB47 : Below w4.heap.size w4 w7 := (hb5.trans (hb6.mono hb5.size)).trans (hb7.mono (hb5.trans (hb6.mono hb5.size)).size)
    have hB37 : Below w3.heap.size w3 w7 := hb4.trans (hB47.mono hb4.size)
    have hBW7 : Below W.heap.size W w7 := hb3.trans (hB37.mono hb3.size)
    clear hvs6 hvr hb5 hb6 hb7
    go_wp2_with fail
    go_loopw [9] (fun vi wr => ∃ k nq : Nat, k ≤ ys.length ∧ vi = .int .i64 (k : Int) ∧ wr = w7.drewN nq) (fun vi _ => ys.length - (intOf vi).toNat)
    case atStart => exact ⟨0, 0, Nat.zero_le _, rfl, rfl⟩
    case round =>
      obtain ⟨k, nq, hk, rfl, rfl⟩ := hrel
      by_cases hlt : k < ys.length
      · obtain ⟨q, hq⟩ : ∃ q, ys[k]? = some q := ⟨_, List.getElem?_eq_getElem hlt⟩
        obtain ⟨gA, rfl, hgA, q1, q2⟩ := HF.out k _ (refs_same HH.out.2.2.2.2.2.2.2.2.1 hq)
        have hrv : ys.reverse[ys.length - 1 - k]? = some q := by rw [List.getElem?_reverse (by omega), show ys.length - 1 - (ys.length - 1 - k) = k from by omega]; exact hq
        obtain ⟨gB, rfl, hgB, q3, q4⟩ := HG.out _ q hrv
        obtain ⟨t, ht⟩ : ∃ t : Nat, ys.length - 1 - k = t := ⟨_, rfl⟩
        rw [ht] at q3 q4
        have htI : (ys.length : Int) - 1 - (k : Int) = (t : Int) := by omega
        have htl : t < ys.length := by omega
        have z1 := (hB37.cell (p := ⟨gA, k * 2, none⟩) hgA).trans q1
        have z2 := (hB37.cell (p := ⟨gA, k * 2 + 1, none⟩) hgA).trans q2
        have z3 := (hB47.cell (p := ⟨gB, t * 7 + 3, none⟩) hgB).trans q3
        have z4 := (hB47.cell (p := ⟨gB, t * 7 + 4, none⟩) hgB).trans q4
        have z5 : gA < w7.heap.size := Nat.lt_of_lt_of_le hgA hB37.size
        have z6 : gB < w7.heap.size := Nat.lt_of_lt_of_le hgB hB47.size
        clear q1 q2 q3 q4 hq hrv ht
        go_wp2_with fail
        go_quiet (fail)
        go_wp2_with fail
        exact ⟨⟨k + 1, _, by omega, by simp, rfl⟩, by simp only [intOf]; omega⟩
      · go_wp2_with fail
        go_ret
        exact ⟨rfl, hBW7.trans ((below_drewN (Below.refl _ _) _).mono hBW7.size)⟩

end Go.Proofs.Ythflfafenehofaa
