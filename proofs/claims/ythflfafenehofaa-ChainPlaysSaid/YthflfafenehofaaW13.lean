/-
  The walk of ChainCounts.
-/
import Derived.Test.YthflfafenehofaaW8
import Derived.Test.YthflfafenehofaaP4
import Derived.Test.YthflfafenehofaaV4
import Derived.Deep.RegionHeld3
namespace Go.Proofs.Ythflfafenehofaa
open Go.RowKit Go.Shelf

attribute [local go_sem] Oper.semAt_some

/-- A value is a row of acts. -/
def IsActs (w : World) (v : Value) (xs : List (Int × Int × Int)) : Prop :=
  ∃ p cap, v = .slice p xs.length cap ∧ ∀ (i : Nat) (a : Int × Int × Int), xs[i]? = some a → ∃ b off, p = some ⟨b, off, none⟩ ∧ b < w.heap.size ∧ w.cell? ⟨b, off + i * 3, none⟩ = some (.int .i64 a.1) ∧ w.cell? ⟨b, off + i * 3 + 1, none⟩ = some (.int .i64 a.2.1) ∧ w.cell? ⟨b, off + i * 3 + 2, none⟩ = some (.int .i64 a.2.2)

theorem ref_start (W : World) : IsRef W.heap.size (W.alloc (.cells #[.slice none 0 0] 45)) W.heap.size (.slice none 0 0) [] :=
  ⟨World.ownsRow_nil _ _ _ _, blk_new W _, fun e => by simp [Value.ownBlock] at e⟩
theorem cget_nil' (k : Int) : cget [] k = none := by unfold cget; split <;> rfl

/-- What the first loop bears. -/
def CountsRel (w : World) (B c mb m : Nat) (n : Nat) (vg vi : Value) (wr : World) : Prop :=
  ∃ (M : CS) (R : List RN) (i : Nat), vi = .int .i64 (i : Int) ∧ vg = .int .i64 ((R.length : Int) - (liveR R : Nat)) ∧ i ≤ n ∧ i ≤ 50 ∧ R.length ≤ i ∧ Both B c mb m wr M R (i : Int) ∧ Below w.heap.size w wr

/-- What the last loops bear. -/
def CountsRel2 (X : Nat → Prop) (c mb : Nat) (wb : World) (R : List RN) (P : List RN → Prop) (vg : Value) (wr : World) : Prop :=
  ∃ (M1 : CS) (R1 : List RN), vg = .int .i64 ((R.length : Int) - (cnt M1 : Nat)) ∧ IsChain X wr c mb M1 ∧ Sim M1 R1 (-1) ∧ R1.length = R.length ∧ P R1 ∧ Keep X wb wr

set_option maxHeartbeats 4000000 in
set_option maxRecDepth 100000 in
theorem counts_any {w : World} {v : Value} {acts : List (Int × Int × Int)} (hv : IsActs w v acts) :
    Calls Try.prog 5 #[v] w fun e w' => e = .returned (.bool true) ∧ Below w.heap.size w w' := by
  obtain ⟨p, cap, rfl, hact⟩ := hv
  have HN := Lib.hid hact
  clear hact
  go_enter Try.func5, Try.ntmps5
  go_wp2_with fail
  go_at_call 8
  refine (awake_any _).mono ?_
  rintro e w1 ⟨rfl, hb1⟩
  go_wp2_with fail
  go_at_call 9
  refine (new_any _).mono ?_
  rintro e w2 ⟨rfl, hc2, hb2⟩
  have hs1 := hb1.size
  have hs2 := hb2.size
  have hbA : Below w2.heap.size w2 (w2.alloc (.cells #[.slice none 0 0] 45)) := (Below.refl _ _).alloc (Nat.le_refl _) _
  have hst : CountsRel w w1.heap.size (w1.heap.size + 1) w1.heap.size w2.heap.size acts.length (.int .i64 0) (.int .i64 0) (w2.alloc (.cells #[.slice none 0 0] 45)) := by
    have href := ref_start w2
    refine ⟨[], [], 0, rfl, rfl, Nat.zero_le _, by omega, Nat.le_refl _, ⟨_, _, hc2.below hbA, ⟨World.ownsRow_nil _ _ _ _, href.blk, href.ne⟩, fun b hb hx => ?_, fun b hb => ?_, hs2, Sim.start, fun j r hj => by simp at hj⟩, hb1.trans ((hb2.mono hs1).trans (hbA.mono (by omega)))⟩
    · rcases hb with rfl | hb
      · exact Nat.lt_irrefl _ (hc2.lt _ hx)
      · simp [Value.ownBlock] at hb
    · rcases hb with rfl | rfl <;> omega
  clear hc2 hb2 hbA
  go_wp2_with fail
  generalize (w2.alloc (.cells #[.slice none 0 0] 45)) = w3 at hst ⊢
  go_loopw [6, 7] (fun vg vi wr => CountsRel w w1.heap.size (w1.heap.size + 1) w1.heap.size w2.heap.size acts.length vg vi wr) (fun _ vi _ => 50 - (intOf vi).toNat)
  case atStart => exact hst
  case round =>
    clear hst
    obtain ⟨M, R, i, rfl, rfl, hin, hi50, hRi, hbo, hbel⟩ := hrel
    have hlr := liveR_le R
    have HBO := Lib.hid hbo
    obtain ⟨X, v', hch, href, hXY, hXB, hBm, hsim, hkK⟩ := hbo
    have hlive := hsim.live
    obtain ⟨p', cap', rfl⟩ : ∃ p' cap', v' = .slice p' R.length cap' := by
      rcases href.cells.2.2.2 with ⟨e, e2⟩ | ⟨g, cap, e, _⟩
      · exact ⟨none, 0, by rw [e, e2]; rfl⟩
      · exact ⟨_, cap, e⟩
    obtain ⟨c1, c2, c3, hcc⟩ := href.cells
    by_cases hlt : i < acts.length ∧ i < 50
    · obtain ⟨hlt1, hlt2⟩ := hlt
      obtain ⟨a, ha⟩ : ∃ a, acts[i]? = some a := ⟨_, List.getElem?_eq_getElem (by omega)⟩
      obtain ⟨b, off, rfl, hbl, ha0, ha1, ha2⟩ := HN.out _ _ ha
      have d0 := (hbel.cell (p := ⟨b, off + i * 3, none⟩) hbl).trans ha0
      have d1 := (hbel.cell (p := ⟨b, off + i * 3 + 1, none⟩) hbl).trans ha1
      have d2 := (hbel.cell (p := ⟨b, off + i * 3 + 2, none⟩) hbl).trans ha2
      have db : b < wr.heap.size := by have := hbel.size; omega
      clear ha ha0 ha1 ha2 hbl href hXY hXB hBm hsim hkK hcc c2
      go_wp2_with fail
      go_at_call 14
      refine (live_is hch hlive).mono ?_
      rintro e w4 ⟨rfl, rfl⟩
      go_wp2_with fail
      go_at_call 16
      refine (does_any HBO.out (by omega) (by omega) _ _ _).mono ?_
      rintro e w4 ⟨rfl, M', R', hbo', hR1, hR2, hb4⟩
      clear d0 d1 d2 db hch hlive c1 c3
      have hlr' := liveR_le R'
      have HBO' := Lib.hid hbo'
      obtain ⟨X', v', hch', href', _, _, _, hsim', _⟩ := hbo'
      have hlive' := hsim'.live
      obtain ⟨p2, cap2, rfl⟩ : ∃ p' cap', v' = .slice p' R'.length cap' := by
        rcases href'.cells.2.2.2 with ⟨e, e2⟩ | ⟨g, cap, e, _⟩
        · exact ⟨none, 0, by rw [e, e2]; rfl⟩
        · exact ⟨_, cap, e⟩
      obtain ⟨c1, c2, c3, _⟩ := href'.cells
      clear hsim' href' c2
      go_wp2_with fail
      go_quiet ((go_at_call 14; exact Calls.quiet_of ((live_is (IsChain.drewN hch' _) hlive').mono fun _ _ h => ⟨h.1, 0, h.2.symm⟩)))
      have hrel : CountsRel w w1.heap.size (w1.heap.size + 1) w1.heap.size w2.heap.size acts.length (.int .i64 ((R'.length : Int) - (liveR R' : Nat))) (.int .i64 ((i : Int) + 1)) (w4.drewN nq) := by
        have hbq : Below w4.heap.size w4 (w4.drewN nq) := below_drewN (Below.refl _ _) nq
        have hBw : w1.heap.size ≤ w4.heap.size := by have := hb4.size; have := hbel.size; omega
        refine ⟨M', R', i + 1, by simp, rfl, by omega, by omega, by omega, ?_, hbel.trans ((hb4.mono hs1).trans (hbq.mono (by omega)))⟩
        have := HBO'.out.below hbq
        rw [show ((i + 1 : Nat) : Int) = (i : Int) + 1 from by omega]
        exact this
      clear c1 c3 hch' hlive'
      go_wp2_with fail
      refine ⟨?_, by simp only [intOf]; omega⟩
      rw [show (R.length : Int) + R'.length - R.length - (liveR R' : Nat) = (R'.length : Int) - (liveR R' : Nat) from by omega]
      exact hrel
    · have hstop : (i : Int) < (acts.length : Int) → ¬ (i : Int) < 50 := by omega
      obtain ⟨wa, rfl⟩ : ∃ wa, wa = wr := ⟨_, rfl⟩
      have hR50 : R.length ≤ 50 := by omega
      have hkb : ∀ (j : Nat) (r : RN), R[j]? = some r → 0 ≤ r.kept ∧ r.kept ≤ 50 := fun j r hr => by
        have h1 := hsim.kept j r hr
        have h2 := hkK j r hr
        omega
      have HS := Lib.hid (And.intro hXY (And.intro hXB (And.intro hsim (And.intro hkb hcc))))
      have hcell2 : ∀ (j : Nat) (r : RN), R[j]? = some r → ∃ g, p' = some ⟨g, 0, none⟩ ∧ g < wa.heap.size ∧ wa.cell? ⟨g, j * 7, none⟩ = some (.int .i64 r.prev) ∧ wa.cell? ⟨g, j * 7 + 5, none⟩ = some (.int .i64 r.kept) := fun j r hr => by
        rcases hcc with ⟨_, e⟩ | ⟨g, cap, e, _, hg, _, _, hcell⟩
        · subst e; simp at hr
        · injection e with e1 e2 e3
          obtain ⟨d0, d1, d2, d3, d4, d5, d6⟩ := hcell j r hr
          exact ⟨g, e1, hg, d0, d5⟩
      have HC := Lib.hid hcell2
      clear hXY hXB hsim hkK hcc hkb hcell2 c2 hlt
      by_cases hsp : i < acts.length
      case' pos =>
        have hsp2 := hstop (by omega)
        clear hstop
        go_wp2_with fail
      case' neg =>
        clear hstop
        go_wp2_with fail
      all_goals
        go_loopw [11] (fun vi w5 => ∃ k nq : Nat, k ≤ R.length ∧ vi = .int .i64 (k : Int) ∧ w5 = wa.drewN nq) (fun vi _ => R.length - (intOf vi).toNat)
        case atStart => exact ⟨0, 0, Nat.zero_le _, rfl, rfl⟩
        case round =>
          obtain ⟨id, nq, hid, rfl, rfl⟩ := hrel
          by_cases hidl : id < R.length
          · go_wp2_with fail
            go_loopw [12, 13] (fun vb vk w6 => ∃ k : Nat, k ≤ R.length ∧ vk = .int .i64 (k : Int) ∧ vb = .int .i64 (kidsR (R.take k) id : Nat) ∧ w6 = wa.drewN nq) (fun _ vk _ => R.length - (intOf vk).toNat)
            case atStart => exact ⟨0, Nat.zero_le _, rfl, by simp [kidsR], rfl⟩
            case round =>
              obtain ⟨k, hk, rfl, rfl, rfl⟩ := hrel
              have hle := kidsR_le (R.take k) id
              rw [List.length_take] at hle
              by_cases hkl : k < R.length
              · obtain ⟨q, hq⟩ : ∃ q, R[k]? = some q := ⟨_, List.getElem?_eq_getElem hkl⟩
                obtain ⟨g, rfl, hgl, f0, f5⟩ := HC.out k q hq
                have HQ := Lib.hid (And.intro hq (kidsR_take (id : Int) hq))
                cases hg : q.gone
                · have hir : isR R (k : Int) = true := by simp [isR, hq, hg]
                  clear hq
                  by_cases hp : q.prev = (id : Int)
                  · rw [hp] at f0
                    go_wp2_with (go_at_call 17; refine (ris_any (href.below (below_drewN (Below.refl _ _) _)) _).mono ?_; rintro e w7 ⟨rfl, rfl⟩; rw [hir])
                    go_roundw
                    case rel => exact ⟨k + 1, by omega, by simp, by rw [HQ.out.2, if_pos ⟨hg, hp⟩]; simp, by trivial⟩
                    case measure => simp only [intOf]; omega
                  · go_wp2_with (go_at_call 17; refine (ris_any (href.below (below_drewN (Below.refl _ _) _)) _).mono ?_; rintro e w7 ⟨rfl, rfl⟩; rw [hir])
                    go_roundw
                    case rel => exact ⟨k + 1, by omega, by simp, by rw [HQ.out.2, if_neg (fun h => hp h.2)]; simp, by trivial⟩
                    case measure => simp only [intOf]; omega
                · have hir : isR R (k : Int) = false := by simp [isR, hq, hg]
                  clear hq
                  go_wp2_with (go_at_call 17; refine (ris_any (href.below (below_drewN (Below.refl _ _) _)) _).mono ?_; rintro e w7 ⟨rfl, rfl⟩; rw [hir])
                  go_roundw
                  case rel => exact ⟨k + 1, by omega, by simp, by rw [HQ.out.2, if_neg (fun h => by rw [hg] at h; cases h.1)]; simp, by trivial⟩
                  case measure => simp only [intOf]; omega
              · obtain rfl : k = R.length := by omega
                rw [List.take_length] at hle ⊢
                obtain ⟨q, hq⟩ : ∃ q, R[id]? = some q := ⟨_, List.getElem?_eq_getElem hidl⟩
                obtain ⟨g, rfl, hgl, f0, f5⟩ := HC.out id q hq
                obtain ⟨k1, k2⟩ := HS.out.2.2.2.1 id q hq
                have hct := HS.out.2.2.1.count (id : Int)
                have HQ := Lib.hid hq
                cases hg : q.gone
                · have hir : isR R (id : Int) = true := by simp [isR, hq, hg]
                  have hcr : cntR R (id : Int) = q.kept + kidsR R id := by
                    unfold cntR
                    rw [if_pos hir, Int.toNat_natCast, hq]
                  rw [hcr] at hct
                  have hc18 : ∀ n' : Nat, Calls Try.prog 18 #[.pointer (some ⟨w1.heap.size + 1, 0, none⟩), .int .i64 (id : Int)] (wa.drewN (nq + n')) fun e w'' => e = .returned (.int .i64 (q.kept + (kidsR R id : Nat))) ∧ ∃ n, w'' = wa.drewN (nq + n) := fun n' => (count_any (hch.drewN (nq + n')) _).mono fun _ _ h => ⟨by rw [h.1, hct], n', h.2.symm⟩
                  clear hq hcr
                  go_wp2_with (go_at_call 17; refine (ris_any (href.below (below_drewN (Below.refl _ _) _)) _).mono ?_; rintro e w7 ⟨rfl, rfl⟩; rw [hir])
                  go_quiet ((go_at_call 18; exact hc18 _))
                  go_wp2_with fail
                  exact ⟨⟨id + 1, _, by omega, by simp, rfl⟩, by simp only [intOf]; omega⟩
                · have hir : isR R (id : Int) = false := by simp [isR, hq, hg]
                  clear hq hct
                  go_wp2_with (go_at_call 17; refine (ris_any (href.below (below_drewN (Below.refl _ _) _)) _).mono ?_; rintro e w7 ⟨rfl, rfl⟩; rw [hir])
                  go_quiet (fail)
                  go_wp2_with fail
                  exact ⟨⟨id + 1, _, by omega, by simp, rfl⟩, by simp only [intOf]; omega⟩
          · have hide : id = R.length := by omega
            subst hide
            obtain ⟨wb, hwb⟩ : ∃ wb, wa.drewN nq = wb := ⟨_, rfl⟩
            have hbq : Below wa.heap.size wa (wa.drewN nq) := below_drewN (Below.refl _ _) nq
            have hchb := hch.below hbq
            have hrefb := href.below hbq
            have hBa : w1.heap.size ≤ wa.heap.size := by have := hch.lt _ hch.1; omega
            have hbelb : Below w.heap.size w (wa.drewN nq) := hbel.trans (hbq.mono (Nat.le_trans hs1 hBa))
            have hBb : w1.heap.size ≤ (wa.drewN nq).heap.size := hBa
            rw [hwb] at hchb hrefb hbelb hBb ⊢
            have hst2 : CountsRel2 X (w1.heap.size + 1) w1.heap.size wb R (fun R1 => keptFrom R R1 0) (.int .i64 ((R.length : Int) - (liveR R : Nat))) wb := ⟨M, R, by rw [hlive], hchb, HS.out.2.2.1, rfl, keptFrom.start R, Keep.refl _ _⟩
            clear hwb hbq hch href hchb hlive c1 c3 hid hidl hlr
            obtain ⟨c1b, _, c3b, _⟩ := hrefb.cells
            go_wp2_with fail
            clear c1b c3b
            go_loopw [6, 15] (fun vg vi wr => ∃ id : Nat, id ≤ R.length ∧ vi = .int .i64 (id : Int) ∧ CountsRel2 X (w1.heap.size + 1) w1.heap.size wb R (fun R1 => keptFrom R R1 id) vg wr) (fun _ vi _ => R.length - (intOf vi).toNat)
            case atStart => exact ⟨0, Nat.zero_le _, rfl, hst2⟩
            case round =>
              clear hst2
              obtain ⟨id, hid, rfl, M1, R1, rfl, hch1, hsim1, hlen1, hkf, hkp1⟩ := hrel
              have hcle := cnt_le M1
              rw [hsim1.len, hlen1] at hcle
              have href1 := hrefb.keep hkp1 HS.out.1
              obtain ⟨c1, c2, c3, _⟩ := href1.cells
              by_cases hidl : id < R.length
              · obtain ⟨q, hq⟩ : ∃ q, R[id]? = some q := ⟨_, List.getElem?_eq_getElem hidl⟩
                obtain ⟨g, rfl, hgl, f0, f5⟩ := HC.out id q hq
                obtain ⟨_, _, _, hccr⟩ := href1.cells
                obtain ⟨k1, k2⟩ := HS.out.2.2.2.1 id q hq
                have f5r : wr.cell? ⟨g, id * 7 + 5, none⟩ = some (.int .i64 q.kept) ∧ g < wr.heap.size := by
                  rcases hccr with ⟨e, _⟩ | ⟨g', cap2, e, _, hg', _, _, hcell⟩
                  · cases e
                  · injection e with e1 e2 e3
                    injection e1 with e1
                    injection e1 with e1
                    subst e1
                    exact ⟨(hcell id q hq).2.2.2.2.2.1, hg'⟩
                obtain ⟨f5', hgl'⟩ := f5r
                have HK := Lib.hid (And.intro hq (hkf.at hq))
                have hst3 : CountsRel2 X (w1.heap.size + 1) w1.heap.size wb R (fun R1 => keptAt R R1 id q.kept) (.int .i64 ((R.length : Int) - (cnt M1 : Nat))) wr := ⟨M1, R1, rfl, hch1, hsim1, hlen1, hkf.at hq, hkp1⟩
                clear hq hkf hccr hch1 hsim1 hkp1 c2 f0 f5 hgl
                go_wp2_with fail
                clear c1 c3 href1 f5' hgl'
                go_loopw [6, 16] (fun vg vk wr => ∃ k : Nat, k ≤ 50 ∧ vk = .int .i64 (k : Int) ∧ CountsRel2 X (w1.heap.size + 1) w1.heap.size wb R (fun R1 => keptAt R R1 id (k : Int)) vg wr) (fun _ vk _ => (intOf vk).toNat)
                case atStart => exact ⟨q.kept.toNat, by omega, by rw [show ((q.kept.toNat : Nat) : Int) = q.kept from by omega], by rw [show ((q.kept.toNat : Nat) : Int) = q.kept from by omega]; exact hst3⟩
                case round =>
                  clear hst3
                  obtain ⟨k, hk50, rfl, M1, R1, rfl, hch1, hsim1, hlen1, hka, hkp1⟩ := hrel
                  have hcle := cnt_le M1
                  rw [hsim1.len, hlen1] at hcle
                  have href1 := hrefb.keep hkp1 HS.out.1
                  by_cases hk0 : 0 < k
                  · obtain ⟨q1, hq1⟩ : ∃ q1, R1[id]? = some q1 := ⟨_, List.getElem?_eq_getElem (by omega)⟩
                    obtain ⟨r0, hr0, hgg, hkk⟩ := hka.2 id q1 hq1
                    rw [if_neg (by omega), if_pos rfl] at hkk
                    have hg1 : q1.gone = false := by
                      cases e : q1.gone
                      · rfl
                      · have := (hsim1.gone id q1 hq1 e).2; omega
                    have hg0 : r0.gone = false := by
                      cases e : r0.gone
                      · rfl
                      · rw [hgg e] at hg1; cases hg1
                    have hir : isR R (id : Int) = true := by simp [isR, hr0, hg0]
                    have hkK1 : ∀ (j : Nat) (r : RN), R1[j]? = some r → r.kept ≤ 50 := fun j r hr => by
                      obtain ⟨r2, h1, _, h3⟩ := hka.2 j r hr
                      have := HS.out.2.2.2.1 j r2 h1
                      rw [h3]
                      split
                      · omega
                      · split <;> omega
                    have hcount := hsim1.counts hkK1 (by omega) (by omega)
                    obtain ⟨n1, hn1, _⟩ := hsim1.node id q1 hq1 hg1
                    have hcg : cget M1 (id : Int) = some n1 := by rw [cget_nat, hn1]; rfl
                    obtain ⟨outS, MS, RS, s1, s2, s3, s4, s5⟩ := sim_drop R.length id M1 (R1.set id { q1 with kept := q1.kept - 1 }) (by omega) (by omega) (hsim1.dropped hq1 hg1 (by omega))
                    have hdy := drop_yes hch1 _ hcg hcount (by omega)
                    have hknext := hka.drop hq1 s2 (by rw [s4, List.length_set])
                    rw [List.length_set] at s4
                    have HD := Lib.hid (And.intro s1 (And.intro s3 hknext))
                    clear hq1 hr0 hgg hkk hg1 hg0 hkK1 hcount hn1 hcg s1 s2 s3 hknext hka hsim1
                    go_wp2_with (go_at_call 17; refine (ris_any href1 _).mono ?_; rintro e w7 ⟨rfl, rfl⟩; rw [hir])
                    go_at_call 11
                    refine hdy.mono ?_
                    rintro e w7 ⟨vo, out, M2, rfl, hd, hown, hch2, hkp2⟩
                    obtain ⟨s1, s3, hknext⟩ := HD.out
                    obtain ⟨eo, eM⟩ := Drops.uniq hd s1
                    subst eM
                    rw [eo] at hown
                    obtain ⟨po, co, rfl, _⟩ := refs_form hown
                    have hrel : CountsRel2 X (w1.heap.size + 1) w1.heap.size wb R (fun R1 => keptAt R R1 id ((k : Int) - 1)) (.int .i64 ((R.length : Int) - (cnt M2 : Nat))) w7 := ⟨M2, RS, rfl, hch2, s3, by omega, hknext, hkp1.trans hkp2⟩
                    clear s1 s3 hknext hd hown hch2 hkp2 hdy hch1 href1 hkp1 eo
                    go_wp2_with fail
                    refine ⟨⟨k - 1, by omega, by rw [show ((k - 1 : Nat) : Int) = (k : Int) - 1 from by omega], ?_⟩, by simp only [intOf]; omega⟩
                    rw [show (R.length : Int) - (cnt M1 : Nat) + (outS.length : Nat) = (R.length : Int) - (cnt M2 : Nat) from by omega, show ((k - 1 : Nat) : Int) = (k : Int) - 1 from by omega]
                    exact hrel
                  · obtain rfl : k = 0 := by omega
                    have hrel : CountsRel2 X (w1.heap.size + 1) w1.heap.size wb R (fun R1 => keptFrom R R1 (id + 1)) (.int .i64 ((R.length : Int) - (cnt M1 : Nat))) wr := ⟨M1, R1, rfl, hch1, hsim1, hlen1, hka.next, hkp1⟩
                    clear hch1 hsim1 hka hkp1 href1
                    go_wp2_with fail
                    exact ⟨⟨id + 1, by omega, by simp, hrel⟩, by simp only [intOf]; omega⟩
              · obtain rfl : id = R.length := by omega
                have hz : cnt M1 = 0 := by rw [hsim1.live]; exact all_gone hsim1 hkf.none
                have hgone : (R.length : Int) - (cnt M1 : Nat) = (R.length : Int) := by omega
                have hbelz : Below w.heap.size w wr := hbelb.trans (hkp1.below (Nat.le_trans hs1 hBb) fun b hb => by have := HS.out.2.1 b hb; omega)
                rw [hgone]
                clear hsim1 hkf hkp1 hgone c2 hid hcle
                go_wp2_with fail
                go_at_call 14
                refine (live_none hch1 hz).mono ?_
                rintro e w8 ⟨rfl, rfl⟩
                go_wp2_with fail
                go_ret
                exact ⟨rfl, hbelz⟩

end Go.Proofs.Ythflfafenehofaa
