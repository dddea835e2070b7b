/-
  The walk of RollStays.
-/
import Derived.Test.YtlndkeofhcneaaaW22
namespace Go.Proofs.Ytlndkeofhcneaaa
open Go.RowKit Go.Shelf

attribute [local go_sem] Oper.semAt_some

def StaysRel (w : World) (n : Nat) (vr vl vi : Value) (wr : World) : Prop :=
  ∃ (S : List ST) (i : Nat), vi = .int .i64 (i : Int) ∧ S.length = i + 1 ∧ i ≤ 30 ∧ i ≤ n ∧ All w.heap.size wr vr vl S ∧ Below w.heap.size w wr

theorem all_start {w w1 : World} (h : Below w.heap.size w w1) : All w.heap.size ((w1.alloc (.cells #[.pointer none] 24)).alloc (.cells #[.slice none 0 0] 25)) (.slice (some ⟨w1.heap.size, 0, none⟩) 1 1) (.slice (some ⟨w1.heap.size + 1, 0, none⟩) 1 1) [⟨none, none, 0, [], []⟩] := by
  have h1 := World.ownsRow_lit (e := 24) (size := 1) (base := w.heap.size) w1 #[.pointer none] 1 h.size (by unfold maxLen; omega) rfl
  have h2 := World.ownsRow_lit (e := 25) (size := 1) (base := w.heap.size) (w1.alloc (.cells #[.pointer none] 24)) #[.slice none 0 0] 1 (by rw [World.size_alloc]; have := h.size; omega) (by unfold maxLen; omega) rfl
  rw [World.size_alloc] at h2
  refine ⟨ownsRow_block h1 fun b hb => (below_alloc _ _).block b (h1.lt b hb).2, h2, fun s hs => ?_⟩
  obtain rfl := List.mem_singleton.1 hs
  exact ⟨Both.nil _, Nat.zero_le _⟩

theorem tmod_bd (x n : Int) (hn : 0 < n) : -n < x.tmod n ∧ x.tmod n < n ∧ (0 ≤ x → 0 ≤ x.tmod n) := by
  have h1 := Int.tmod_lt_of_pos x hn
  have h2 := Int.tmod_lt_of_pos (-x) hn
  rw [Int.neg_tmod] at h2
  exact ⟨by omega, h1, fun h => Int.tmod_nonneg n h⟩

theorem rest_in (q n : Int) (hn : 0 < n) (hm : n ≤ 100) : 0 ≤ (wrap64 (q.tmod n + n)).tmod n ∧ (wrap64 (q.tmod n + n)).tmod n < n := by
  have h1 := tmod_bd q n hn
  have e : wrap64 (q.tmod n + n) = q.tmod n + n := by unfold wrap64; omega
  have h2 := tmod_bd (wrap64 (q.tmod n + n)) n hn
  rw [e] at h2 ⊢
  exact ⟨h2.2.2 (by omega), h2.2.1⟩

set_option maxHeartbeats 16000000 in
set_option maxRecDepth 100000 in
theorem stays_any {w : World} {v v' : Value} {acts : List AC} {nums : List Int} (hv : IsActs w v acts) (hv' : IsInts w v' nums) :
    Calls Try.prog 4 #[v, v'] w fun e w' => e = .returned (.bool true) ∧ Below w.heap.size w w' := by
  obtain ⟨pn, capn, rfl, hc⟩ := hv
  obtain ⟨pm, capm, rfl, hc'⟩ := hv'
  have HN := Lib.hid hc
  have HM := Lib.hid hc'
  clear hc hc'
  go_enter Try.func4, Try.ntmps4
  go_wp2_with fail
  go_at_call 7
  refine (awake_any w).mono ?_
  rintro e w1 ⟨rfl, hb1⟩
  have hst : StaysRel w acts.length (.slice (some ⟨w1.heap.size, 0, none⟩) 1 1) (.slice (some ⟨w1.heap.size + 1, 0, none⟩) 1 1) (.int .i64 0) ((w1.alloc (.cells #[.pointer none] 24)).alloc (.cells #[.slice none 0 0] 25)) :=
    ⟨[⟨none, none, 0, [], []⟩], 0, rfl, rfl, by omega, Nat.zero_le _, all_start hb1, (below_then hb1 (below_alloc _ _)).alloc (by have := hb1.size; simp; omega) _⟩
  clear hb1
  go_wp2_with fail
  generalize ((w1.alloc (.cells #[.pointer none] 24)).alloc (.cells #[.slice none 0 0] 25)) = w2 at hst ⊢
  go_loopw [6, 7, 8] (fun vr vl vi wr => StaysRel w acts.length vr vl vi wr) (fun _ _ vi _ => 30 - (intOf vi).toNat)
  case atStart => exact hst
  case round =>
    clear hst
    obtain ⟨S, i, rfl, hSi, hi30, hin, H, hbw⟩ := hrel
    obtain ⟨g6, c6, rfl, hg6, hl6, hcell6⟩ := own_cell H.rolls (by omega)
    obtain ⟨g7, c7, rfl, hg7, hl7, hcell7⟩ := own_cell H.rows (by omega)
    have HH := Lib.hid H
    have HW := Lib.hid hbw
    have HC := Lib.hid (And.intro hcell6 hcell7)
    have HL := Lib.hid (And.intro hg6 (And.intro hl6 (And.intro hg7 hl7)))
    clear hcell6 hcell7
    by_cases hlt : i < acts.length ∧ i < 30
    · obtain ⟨hlt1, hlt2⟩ := hlt
      obtain ⟨x, hx⟩ : ∃ a, acts[i]? = some a := ⟨_, List.getElem?_eq_getElem hlt1⟩
      obtain ⟨b, off, rfl, hbl, c0, c1, c2, c3⟩ := HN.out _ _ hx
      have d0 := (hbw.cell (p := ⟨b, off + i * 4, none⟩) hbl).trans c0
      have d1 := (hbw.cell (p := ⟨b, off + i * 4 + 1, none⟩) hbl).trans c1
      have d2 := (hbw.cell (p := ⟨b, off + i * 4 + 2, none⟩) hbl).trans c2
      have d3 := (hbw.cell (p := ⟨b, off + i * 4 + 3, none⟩) hbl).trans c3
      have db : b < wr.heap.size := Nat.lt_of_lt_of_le hbl hbw.size
      obtain ⟨xf, xn, xi, xt⟩ := x
      dsimp only at d0 d1 d2 d3
      clear hx c0 c1 c2 c3 hbl
      have hpos : ((S.length : Nat) : Int) ≠ 0 := by omega
      rw [hSi] at hpos ⊢
      by_cases hwh : i < nums.length
      · obtain ⟨q, hq⟩ : ∃ a, nums[i]? = some a := ⟨_, List.getElem?_eq_getElem hwh⟩
        obtain ⟨bq, oq, rfl, hbq, hcq⟩ := HM.out _ _ hq
        have dq := (hbw.cell (p := ⟨bq, oq + i, none⟩) hbq).trans hcq
        have dbq : bq < wr.heap.size := Nat.lt_of_lt_of_le hbq hbw.size
        obtain ⟨k, hk, ek⟩ : ∃ k : Nat, k < S.length ∧ (wrap64 (q.tmod ((i : Int) + 1) + ((i : Int) + 1))).tmod ((i : Int) + 1) = (k : Int) := by
          have := rest_in q ((i : Int) + 1) (by omega) (by omega)
          exact ⟨((wrap64 (q.tmod ((i : Int) + 1) + ((i : Int) + 1))).tmod ((i : Int) + 1)).toNat, by omega, by omega⟩
        clear hq hcq hbq H hbw hg6 hl6 hg7 hl7
        go_wp2_with fail
        try rw [ek]
        clear ek dq dbq
        obtain ⟨s, hs⟩ : ∃ s, S[k]? = some s := ⟨_, List.getElem?_eq_getElem hk⟩
        obtain ⟨hbs, hsl⟩ := HH.out.each s (List.mem_of_getElem? hs)
        have hr6 := HC.out.1 k (.pointer s.ptr) (by rw [List.getElem?_map, hs]; rfl)
        have hr7 := HC.out.2 k s.row (by rw [List.getElem?_map, hs]; rfl)
        obtain ⟨sp, slp, slc, C, D⟩ := s
        dsimp only [ST.row] at hr6 hr7 hbs hsl
        have hlD : D.length ≤ 31 := by have := hbs.alike.len; omega
        have hk1 : k < i + 1 := by omega
        have hk2 : ((k : Nat) : Int) < (i : Int) + 1 := by omega
        have hk3 : (0 : Int) ≤ ((k : Nat) : Int) := by omega
        have hk4 : k ≤ i := by omega
        have hk5 : ((k : Nat) : Int) ≤ (i : Int) := by omega
        have hk6 : ((k : Nat) : Int) < ((i + 1 : Nat) : Int) := by omega
        obtain ⟨w2, e2⟩ : ∃ w2, wr.alloc (Obj.cells #[.bool xf, .bool xn, .int .i64 xi, .int .i64 xt] 27) = w2 := ⟨_, rfl⟩
        have z2 : w2.heap[wr.heap.size]? = some (.cells #[.bool xf, .bool xn, .int .i64 xi, .int .i64 xt] 27) := by rw [← e2]; exact blk_new _ _
        have hb2 : Below wr.heap.size wr w2 := by rw [← e2]; exact below_alloc _ _
        rw [e2]
        clear e2 hs
        have HB2 := Lib.hid hb2
        have HS := Lib.hid (And.intro hbs (And.intro hr6 hr7))
        generalize wr.heap.size = b9 at z2 ⊢
        have Z2 := Lib.hid z2
        clear z2 hb2 hbs hr6 hr7 d0 d1 d2 d3 db
        go_at_call 8
        refine (numbers_any xf xn xi xt w2).mono ?_
        rintro e w3 ⟨a, t, rfl, hb3⟩
        obtain ⟨w4, e4⟩ : ∃ w4, w3.alloc (.cells #[.slice none 0 0, .bool false] 33) = w4 := ⟨_, rfl⟩
        have hb34 : Below w3.heap.size w3 w4 := by rw [← e4]; exact below_alloc _ _
        have z4 : w4.heap[w3.heap.size]? = some (.cells #[.slice none 0 0, .bool false] 33) := by rw [← e4]; exact blk_new _ _
        have hb24 := below_then hb3 hb34
        have hb14 := below_then HB2.out hb24
        have y4 := (hb24.block _ (blk_lt Z2.out)).trans Z2.out
        have y3 := (hb3.block _ (blk_lt Z2.out)).trans Z2.out
        have d0 := blk_cell y4 0
        have dl := blk_lt y4
        have f0 := blk_cell y3 0
        have fl := blk_lt y3
        simp only [List.getElem?_toArray, List.getElem?_cons_zero] at d0 f0
        have s6 := (hb14.cell (p := ⟨g6, k, none⟩) HL.out.2.1).trans HS.out.2.1
        have s7 := (hb14.cell (p := ⟨g7, k, none⟩) HL.out.2.2.2).trans HS.out.2.2
        have l6 := Nat.lt_of_lt_of_le HL.out.2.1 hb14.size
        have l7 := Nat.lt_of_lt_of_le HL.out.2.2.2 hb14.size
        have H4 := Lib.hid (HS.out.1.below hb14)
        have HA4 := Lib.hid (HH.out.below hb14)
        have HW4 := Lib.hid (below_then HW.out hb14)
        have Z4 := Lib.hid z4
        have h3w : w.heap.size ≤ w3.heap.size := by have := HW.out.size; have := (below_then HB2.out hb3).size; omega
        obtain ⟨vr, hr4⟩ := H4.out.roll
        clear hb34 hb24 hb14 y4 y3 z4 hb3
        cases xf
        · rcases add_cases C a with hy | hno
          · go_wp2_with fail
            go_region_held3 (fun w' => w'.cell? ⟨g6, k, none⟩ = some (.pointer sp)) (first | exact ((below_drew w4).cell (p := ⟨g6, k, none⟩) l6).trans s6 | exact k6 | exact m6) (first | (go_at_call 12; refine (kind_any _ _).mono ?_; rintro e wk ⟨bk, ck, rfl, htk, hbk⟩; have hbk' := below_then (below_drew w4) hbk; have k6 := (hbk'.cell (p := ⟨g6, k, none⟩) l6).trans s6) | (go_at_call 11; refine (add_yes (hr4.below hbk') a (some ⟨bk, 0, none⟩) 1 ck (i : Nat) (by omega) htk hy).mono ?_; rintro e w5 ⟨hb5, r5, v5, rfl, hr5⟩; obtain ⟨p5, rfl⟩ := hr5.cell'; have hb45 := below_then hbk' hb5; have m6 := (hb45.cell (p := ⟨g6, k, none⟩) l6).trans s6))
            have t7 := (hb45.cell (p := ⟨g7, k, none⟩) l7).trans s7
            have l7' := Nat.lt_of_lt_of_le l7 hb45.size
            clear d0 dl f0 fl s6 s7 k6 m6 e4
            go_wp2_with fail
            have hne : g7 ≠ w3.heap.size := fun h => by have h1 := Z4.out; have h2 := HA4.out.rows; rcases h2.2 with ⟨h3, _⟩ | ⟨gg, cc, cur, h3, _, h4, _⟩; (cases h3); cases h3; rw [h, h1] at h4; injection h4 with h4; injection h4 with _ h4; exact absurd h4 (by decide)
            go_region_held3 (fun w' => w'.cell? ⟨g7, k, none⟩ = some (.slice slp D.length slc)) (first | exact ((below_drew w5).cell (p := ⟨g7, k, none⟩) l7').trans t7 | exact k7 | exact m7 | exact n7) (first | (go_at_call 12; refine (kind_any _ _).mono ?_; rintro e wm ⟨bm, cm, rfl, htm, hbm0⟩; have hbm := below_then (below_drew w5) hbm0; have hbm' := below_then hb45 hbm; have k7 := (hbm.cell (p := ⟨g7, k, none⟩) l7').trans t7) | (go_at_call 13; refine (rAdd_yes (H4.out.row.below hbm') a (some ⟨bm, 0, none⟩) 1 cm (i : Nat) (by omega) htm (H4.out.alike.addYes hy)).mono ?_; rintro e w6 ⟨hb6, v6, rfl, hd6⟩; obtain ⟨CC, DD, hB6, hlc⟩ : ∃ CC DD, Both w6 (.pointer p5) v6 CC DD ∧ CC.length ≤ S.length + 1 := ⟨_, _, ⟨⟨v5, hr5.below (below_then hbm hb6)⟩, hd6, H4.out.alike.snoc ⟨rfl, rfl, rfl, rfl, rfl⟩, H4.out.asc.snoc fun e he => hy.2 e he⟩, by simp; omega⟩; obtain ⟨p6, c6', rfl⟩ := hB6.row.slice; have hb46 := below_then hbm' hb6; have m7 := ((below_then hbm hb6).cell (p := ⟨g7, k, none⟩) l7').trans t7; have z6 := (hb46.block _ (blk_lt Z4.out)).trans Z4.out; obtain ⟨w7, e7⟩ : ∃ w7, (w6.setCell ⟨w3.heap.size, 0, none⟩ (.slice p6 DD.length c6')).setCell ⟨w3.heap.size, 1, none⟩ (.bool true) = w7 := ⟨_, rfl⟩; obtain ⟨vr', w8, vl', w9, run1, ⟨t8, t8l⟩, run2, hA9, hb9⟩ := tail_facts (HA4.out.below hb46) z6 h3w hB6 hlc (by omega) (by have := hb46.size; have := HW4.out.size; omega) e7; have zf := blk_free z6; have zl := blk_lt z6; have z60 := blk_cell z6 0; have z61 := blk_cell z6 1; simp only [List.getElem?_toArray, List.getElem?_cons_zero, List.getElem?_cons_succ] at z60 z61; rw [hSi] at run1 run2; have HR1 := Lib.hid run1; have HR2 := Lib.hid run2; have HZ := Lib.hid (And.intro hA9 ((HW4.out.trans (hb46.mono HW4.out.size)).trans hb9)); have n7 : w7.cell? ⟨g7, k, none⟩ = some (.slice slp D.length slc) := (by rw [← e7, World.cell?_of_block (w := w6) (by rw [Below.heap_setCell _ _ _ _ (fun h => hne h), Below.heap_setCell _ _ _ _ (fun h => hne h)])]; exact m7)))
            clear run1 run2 hA9 hb9 hb46 hb5 hb6 hB6 z6 t7 l7' l6 l7 k7 m7 n7 hne
            go_wp2_with (at_builtin; first | refine wpList_append_run rfl _ _ 44 rfl _ _ rfl rfl HR1.out ?_ | refine wpList_append_run rfl _ _ 45 rfl _ _ rfl rfl HR2.out ?_)
            refine ⟨⟨_, i + 1, by simp, by simp; omega, by omega, by omega, HZ.out.1, HZ.out.2⟩, ?_⟩
            simp only [intOf]
            omega
          · go_wp2_with fail
            go_region_held3 (fun w' => w'.cell? ⟨g6, k, none⟩ = some (.pointer sp)) (first | exact ((below_drew w4).cell (p := ⟨g6, k, none⟩) l6).trans s6 | exact k6 | exact m6) (first | (go_at_call 12; refine (kind_any _ _).mono ?_; rintro e wk ⟨bk, ck, rfl, htk, hbk⟩; have hbk' := below_then (below_drew w4) hbk; have k6 := (hbk'.cell (p := ⟨g6, k, none⟩) l6).trans s6) | (go_at_call 11; refine (add_no (hr4.below hbk') a (some ⟨bk, 0, none⟩) 1 ck (i : Nat) (by omega) hno).mono ?_; rintro e w5 ⟨rfl, hb5⟩; have hb45 := below_then hbk' hb5; have m6 := (hb45.cell (p := ⟨g6, k, none⟩) l6).trans s6))
            have t7 := (hb45.cell (p := ⟨g7, k, none⟩) l7).trans s7
            have l7' := Nat.lt_of_lt_of_le l7 hb45.size
            clear d0 dl f0 fl s6 s7 k6 m6 e4
            go_wp2_with fail
            have hne : g7 ≠ w3.heap.size := fun h => by have h1 := Z4.out; have h2 := HA4.out.rows; rcases h2.2 with ⟨h3, _⟩ | ⟨gg, cc, cur, h3, _, h4, _⟩; (cases h3); cases h3; rw [h, h1] at h4; injection h4 with h4; injection h4 with _ h4; exact absurd h4 (by decide)
            go_region_held3 (fun w' => w'.cell? ⟨g7, k, none⟩ = some (.slice slp D.length slc)) (first | exact ((below_drew w5).cell (p := ⟨g7, k, none⟩) l7').trans t7 | exact k7 | exact m7 | exact n7) (first | (go_at_call 12; refine (kind_any _ _).mono ?_; rintro e wm ⟨bm, cm, rfl, htm, hbm0⟩; have hbm := below_then (below_drew w5) hbm0; have hbm' := below_then hb45 hbm; have k7 := (hbm.cell (p := ⟨g7, k, none⟩) l7').trans t7) | (go_at_call 13; refine (rAdd_no (H4.out.row.below hbm') a (some ⟨bm, 0, none⟩) 1 cm (i : Nat) (by omega) (H4.out.alike.addNo hno)).mono ?_; rintro e w6 ⟨rfl, hb6⟩; have hB6 := H4.out.below (below_then hbm' hb6); have hlc : C.length ≤ S.length + 1 := (by omega); have hb46 := below_then hbm' hb6; have m7 := ((below_then hbm hb6).cell (p := ⟨g7, k, none⟩) l7').trans t7; have z6 := (hb46.block _ (blk_lt Z4.out)).trans Z4.out; obtain ⟨w7, e7⟩ : ∃ w7, (w6.setCell ⟨w3.heap.size, 0, none⟩ (.slice slp D.length slc)).setCell ⟨w3.heap.size, 1, none⟩ (.bool false) = w7 := ⟨_, rfl⟩; obtain ⟨vr', w8, vl', w9, run1, ⟨t8, t8l⟩, run2, hA9, hb9⟩ := tail_facts (HA4.out.below hb46) z6 h3w hB6 hlc (by omega) (by have := hb46.size; have := HW4.out.size; omega) e7; have zf := blk_free z6; have zl := blk_lt z6; have z60 := blk_cell z6 0; have z61 := blk_cell z6 1; simp only [List.getElem?_toArray, List.getElem?_cons_zero, List.getElem?_cons_succ] at z60 z61; rw [hSi] at run1 run2; have HR1 := Lib.hid run1; have HR2 := Lib.hid run2; have HZ := Lib.hid (And.intro hA9 ((HW4.out.trans (hb46.mono HW4.out.size)).trans hb9)); have n7 : w7.cell? ⟨g7, k, none⟩ = some (.slice slp D.length slc) := (by rw [← e7, World.cell?_of_block (w := w6) (by rw [Below.heap_setCell _ _ _ _ (fun h => hne h), Below.heap_setCell _ _ _ _ (fun h => hne h)])]; exact m7)))
            clear run1 run2 hA9 hb9 hb46 hb5 hb6 hB6 z6 t7 l7' l6 l7 k7 m7 n7 hne
            go_wp2_with (at_builtin; first | refine wpList_append_run rfl _ _ 44 rfl _ _ rfl rfl HR1.out ?_ | refine wpList_append_run rfl _ _ 45 rfl _ _ rfl rfl HR2.out ?_)
            refine ⟨⟨_, i + 1, by simp, by simp; omega, by omega, by omega, HZ.out.1, HZ.out.2⟩, ?_⟩
            simp only [intOf]
            omega
        · rcases end_cases C a t with ⟨m, c, hy⟩ | hno
          · obtain ⟨d, q1, q2, q3, q4⟩ := H4.out.alike.endYes hy
            obtain ⟨y1, y2, y3, y4⟩ := hy
            go_wp2_with fail
            go_at_call 9
            refine (end_yes hr4 H4.out.asc a t (by omega) m c y1 y2 y3 y4).mono ?_
            rintro e w5 ⟨hb5, r5, v5, rfl, hr5⟩
            obtain ⟨p5, rfl⟩ := hr5.cell'
            have t7 := (hb5.cell (p := ⟨g7, k, none⟩) l7).trans s7
            have l7' := Nat.lt_of_lt_of_le l7 hb5.size
            clear d0 dl f0 fl s6 s7 e4
            go_wp2_with fail
            go_at_call 10
            refine (rEnd_yes (H4.out.row.below hb5) (H4.out.alike.asc H4.out.asc) a t (by omega) m d q1 q2 q3 q4).mono ?_
            rintro e w6 ⟨hb6, v6, rfl, hd6⟩
            obtain ⟨CC, DD, hB6, hlc⟩ : ∃ CC DD, Both w6 (.pointer p5) v6 CC DD ∧ CC.length ≤ S.length + 1 := ⟨_, _, ⟨⟨v5, hr5.below hb6⟩, hd6, H4.out.alike.setTo y1 q1 t, H4.out.asc.set y1 t⟩, by simp; omega⟩
            clear hr5 hd6
            obtain ⟨p6, c6', rfl⟩ := hB6.row.slice
            have hb46 := below_then hb5 hb6
            have z6 := (hb46.block _ (blk_lt Z4.out)).trans Z4.out
            obtain ⟨w7, e7⟩ : ∃ w7, (w6.setCell ⟨w3.heap.size, 0, none⟩ (.slice p6 DD.length c6')).setCell ⟨w3.heap.size, 1, none⟩ (.bool true) = w7 := ⟨_, rfl⟩
            obtain ⟨vr', w8, vl', w9, run1, ⟨t8, t8l⟩, run2, hA9, hb9⟩ := tail_facts (HA4.out.below hb46) z6 h3w hB6 hlc (by omega) (by have := hb46.size; have := HW4.out.size; omega) e7
            have zf := blk_free z6
            have zl := blk_lt z6
            have z60 := blk_cell z6 0
            have z61 := blk_cell z6 1
            simp only [List.getElem?_toArray, List.getElem?_cons_zero, List.getElem?_cons_succ] at z60 z61
            rw [hSi] at run1 run2
            have HR1 := Lib.hid run1
            have HR2 := Lib.hid run2
            have HZ := Lib.hid (And.intro hA9 ((HW4.out.trans (hb46.mono HW4.out.size)).trans hb9))
            clear run1 run2 hA9 hb9 hb46 hb5 hb6 hB6 z6 t7 l7' l6 l7
            go_wp2_with (at_builtin; first | refine wpList_append_run rfl _ _ 44 rfl _ _ rfl rfl HR1.out ?_ | refine wpList_append_run rfl _ _ 45 rfl _ _ rfl rfl HR2.out ?_)
            refine ⟨⟨_, i + 1, by simp, by simp; omega, by omega, by omega, HZ.out.1, HZ.out.2⟩, ?_⟩
            simp only [intOf]
            omega
          · go_wp2_with fail
            go_at_call 9
            refine (end_no hr4 H4.out.asc a t (by omega) hno).mono ?_
            rintro e w5 ⟨rfl, hb5⟩
            have t7 := (hb5.cell (p := ⟨g7, k, none⟩) l7).trans s7
            have l7' := Nat.lt_of_lt_of_le l7 hb5.size
            clear d0 dl f0 fl s6 s7 e4
            go_wp2_with fail
            go_at_call 10
            refine (rEnd_no (H4.out.row.below hb5) (H4.out.alike.asc H4.out.asc) a t (by omega) (H4.out.alike.endNo hno)).mono ?_
            rintro e w6 ⟨rfl, hb6⟩
            have hB6 := H4.out.below (below_then hb5 hb6)
            have hlc : C.length ≤ S.length + 1 := (by omega)
            have hb46 := below_then hb5 hb6
            have z6 := (hb46.block _ (blk_lt Z4.out)).trans Z4.out
            obtain ⟨w7, e7⟩ : ∃ w7, (w6.setCell ⟨w3.heap.size, 0, none⟩ (.slice slp D.length slc)).setCell ⟨w3.heap.size, 1, none⟩ (.bool false) = w7 := ⟨_, rfl⟩
            obtain ⟨vr', w8, vl', w9, run1, ⟨t8, t8l⟩, run2, hA9, hb9⟩ := tail_facts (HA4.out.below hb46) z6 h3w hB6 hlc (by omega) (by have := hb46.size; have := HW4.out.size; omega) e7
            have zf := blk_free z6
            have zl := blk_lt z6
            have z60 := blk_cell z6 0
            have z61 := blk_cell z6 1
            simp only [List.getElem?_toArray, List.getElem?_cons_zero, List.getElem?_cons_succ] at z60 z61
            rw [hSi] at run1 run2
            have HR1 := Lib.hid run1
            have HR2 := Lib.hid run2
            have HZ := Lib.hid (And.intro hA9 ((HW4.out.trans (hb46.mono HW4.out.size)).trans hb9))
            clear run1 run2 hA9 hb9 hb46 hb5 hb6 hB6 z6 t7 l7' l6 l7
            go_wp2_with (at_builtin; first | refine wpList_append_run rfl _ _ 44 rfl _ _ rfl rfl HR1.out ?_ | refine wpList_append_run rfl _ _ 45 rfl _ _ rfl rfl HR2.out ?_)
            refine ⟨⟨_, i + 1, by simp, by simp; omega, by omega, by omega, HZ.out.1, HZ.out.2⟩, ?_⟩
            simp only [intOf]
            omega
      · have hk : i < S.length := by omega
        clear H hbw hg6 hl6 hg7 hl7
        go_wp2_with fail
        obtain ⟨s, hs⟩ : ∃ s, S[i]? = some s := ⟨_, List.getElem?_eq_getElem hk⟩
        obtain ⟨hbs, hsl⟩ := HH.out.each s (List.mem_of_getElem? hs)
        have hr6 := HC.out.1 i (.pointer s.ptr) (by rw [List.getElem?_map, hs]; rfl)
        have hr7 := HC.out.2 i s.row (by rw [List.getElem?_map, hs]; rfl)
        obtain ⟨sp, slp, slc, C, D⟩ := s
        dsimp only [ST.row] at hr6 hr7 hbs hsl
        have hlD : D.length ≤ 31 := by have := hbs.alike.len; omega
        have hk1 : i < i + 1 := by omega
        have hk2 : ((i : Nat) : Int) < (i : Int) + 1 := by omega
        have hk3 : (0 : Int) ≤ ((i : Nat) : Int) := by omega
        have hk4 : i ≤ i := by omega
        have hk5 : ((i : Nat) : Int) ≤ (i : Int) := by omega
        have hk6 : ((i : Nat) : Int) < ((i + 1 : Nat) : Int) := by omega
        obtain ⟨w2, e2⟩ : ∃ w2, wr.alloc (Obj.cells #[.bool xf, .bool xn, .int .i64 xi, .int .i64 xt] 27) = w2 := ⟨_, rfl⟩
        have z2 : w2.heap[wr.heap.size]? = some (.cells #[.bool xf, .bool xn, .int .i64 xi, .int .i64 xt] 27) := by rw [← e2]; exact blk_new _ _
        have hb2 : Below wr.heap.size wr w2 := by rw [← e2]; exact below_alloc _ _
        rw [e2]
        clear e2 hs
        have HB2 := Lib.hid hb2
        have HS := Lib.hid (And.intro hbs (And.intro hr6 hr7))
        generalize wr.heap.size = b9 at z2 ⊢
        have Z2 := Lib.hid z2
        clear z2 hb2 hbs hr6 hr7 d0 d1 d2 d3 db
        go_at_call 8
        refine (numbers_any xf xn xi xt w2).mono ?_
        rintro e w3 ⟨a, t, rfl, hb3⟩
        obtain ⟨w4, e4⟩ : ∃ w4, w3.alloc (.cells #[.slice none 0 0, .bool false] 33) = w4 := ⟨_, rfl⟩
        have hb34 : Below w3.heap.size w3 w4 := by rw [← e4]; exact below_alloc _ _
        have z4 : w4.heap[w3.heap.size]? = some (.cells #[.slice none 0 0, .bool false] 33) := by rw [← e4]; exact blk_new _ _
        have hb24 := below_then hb3 hb34
        have hb14 := below_then HB2.out hb24
        have y4 := (hb24.block _ (blk_lt Z2.out)).trans Z2.out
        have y3 := (hb3.block _ (blk_lt Z2.out)).trans Z2.out
        have d0 := blk_cell y4 0
        have dl := blk_lt y4
        have f0 := blk_cell y3 0
        have fl := blk_lt y3
        simp only [List.getElem?_toArray, List.getElem?_cons_zero] at d0 f0
        have s6 := (hb14.cell (p := ⟨g6, i, none⟩) HL.out.2.1).trans HS.out.2.1
        have s7 := (hb14.cell (p := ⟨g7, i, none⟩) HL.out.2.2.2).trans HS.out.2.2
        have l6 := Nat.lt_of_lt_of_le HL.out.2.1 hb14.size
        have l7 := Nat.lt_of_lt_of_le HL.out.2.2.2 hb14.size
        have H4 := Lib.hid (HS.out.1.below hb14)
        have HA4 := Lib.hid (HH.out.below hb14)
        have HW4 := Lib.hid (below_then HW.out hb14)
        have Z4 := Lib.hid z4
        have h3w : w.heap.size ≤ w3.heap.size := by have := HW.out.size; have := (below_then HB2.out hb3).size; omega
        obtain ⟨vr, hr4⟩ := H4.out.roll
        clear hb34 hb24 hb14 y4 y3 z4 hb3
        cases xf
        · rcases add_cases C a with hy | hno
          · go_wp2_with fail
            go_region_held3 (fun w' => w'.cell? ⟨g6, i, none⟩ = some (.pointer sp)) (first | exact ((below_drew w4).cell (p := ⟨g6, i, none⟩) l6).trans s6 | exact k6 | exact m6) (first | (go_at_call 12; refine (kind_any _ _).mono ?_; rintro e wk ⟨bk, ck, rfl, htk, hbk⟩; have hbk' := below_then (below_drew w4) hbk; have k6 := (hbk'.cell (p := ⟨g6, i, none⟩) l6).trans s6) | (go_at_call 11; refine (add_yes (hr4.below hbk') a (some ⟨bk, 0, none⟩) 1 ck (i : Nat) (by omega) htk hy).mono ?_; rintro e w5 ⟨hb5, r5, v5, rfl, hr5⟩; obtain ⟨p5, rfl⟩ := hr5.cell'; have hb45 := below_then hbk' hb5; have m6 := (hb45.cell (p := ⟨g6, i, none⟩) l6).trans s6))
            have t7 := (hb45.cell (p := ⟨g7, i, none⟩) l7).trans s7
            have l7' := Nat.lt_of_lt_of_le l7 hb45.size
            clear d0 dl f0 fl s6 s7 k6 m6 e4
            go_wp2_with fail
            have hne : g7 ≠ w3.heap.size := fun h => by have h1 := Z4.out; have h2 := HA4.out.rows; rcases h2.2 with ⟨h3, _⟩ | ⟨gg, cc, cur, h3, _, h4, _⟩; (cases h3); cases h3; rw [h, h1] at h4; injection h4 with h4; injection h4 with _ h4; exact absurd h4 (by decide)
            go_region_held3 (fun w' => w'.cell? ⟨g7, i, none⟩ = some (.slice slp D.length slc)) (first | exact ((below_drew w5).cell (p := ⟨g7, i, none⟩) l7').trans t7 | exact k7 | exact m7 | exact n7) (first | (go_at_call 12; refine (kind_any _ _).mono ?_; rintro e wm ⟨bm, cm, rfl, htm, hbm0⟩; have hbm := below_then (below_drew w5) hbm0; have hbm' := below_then hb45 hbm; have k7 := (hbm.cell (p := ⟨g7, i, none⟩) l7').trans t7) | (go_at_call 13; refine (rAdd_yes (H4.out.row.below hbm') a (some ⟨bm, 0, none⟩) 1 cm (i : Nat) (by omega) htm (H4.out.alike.addYes hy)).mono ?_; rintro e w6 ⟨hb6, v6, rfl, hd6⟩; obtain ⟨CC, DD, hB6, hlc⟩ : ∃ CC DD, Both w6 (.pointer p5) v6 CC DD ∧ CC.length ≤ S.length + 1 := ⟨_, _, ⟨⟨v5, hr5.below (below_then hbm hb6)⟩, hd6, H4.out.alike.snoc ⟨rfl, rfl, rfl, rfl, rfl⟩, H4.out.asc.snoc fun e he => hy.2 e he⟩, by simp; omega⟩; obtain ⟨p6, c6', rfl⟩ := hB6.row.slice; have hb46 := below_then hbm' hb6; have m7 := ((below_then hbm hb6).cell (p := ⟨g7, i, none⟩) l7').trans t7; have z6 := (hb46.block _ (blk_lt Z4.out)).trans Z4.out; obtain ⟨w7, e7⟩ : ∃ w7, (w6.setCell ⟨w3.heap.size, 0, none⟩ (.slice p6 DD.length c6')).setCell ⟨w3.heap.size, 1, none⟩ (.bool true) = w7 := ⟨_, rfl⟩; obtain ⟨vr', w8, vl', w9, run1, ⟨t8, t8l⟩, run2, hA9, hb9⟩ := tail_facts (HA4.out.below hb46) z6 h3w hB6 hlc (by omega) (by have := hb46.size; have := HW4.out.size; omega) e7; have zf := blk_free z6; have zl := blk_lt z6; have z60 := blk_cell z6 0; have z61 := blk_cell z6 1; simp only [List.getElem?_toArray, List.getElem?_cons_zero, List.getElem?_cons_succ] at z60 z61; rw [hSi] at run1 run2; have HR1 := Lib.hid run1; have HR2 := Lib.hid run2; have HZ := Lib.hid (And.intro hA9 ((HW4.out.trans (hb46.mono HW4.out.size)).trans hb9)); have n7 : w7.cell? ⟨g7, i, none⟩ = some (.slice slp D.length slc) := (by rw [← e7, World.cell?_of_block (w := w6) (by rw [Below.heap_setCell _ _ _ _ (fun h => hne h), Below.heap_setCell _ _ _ _ (fun h => hne h)])]; exact m7)))
            clear run1 run2 hA9 hb9 hb46 hb5 hb6 hB6 z6 t7 l7' l6 l7 k7 m7 n7 hne
            go_wp2_with (at_builtin; first | refine wpList_append_run rfl _ _ 44 rfl _ _ rfl rfl HR1.out ?_ | refine wpList_append_run rfl _ _ 45 rfl _ _ rfl rfl HR2.out ?_)
            refine ⟨⟨_, i + 1, by simp, by simp; omega, by omega, by omega, HZ.out.1, HZ.out.2⟩, ?_⟩
            simp only [intOf]
            omega
          · go_wp2_with fail
            go_region_held3 (fun w' => w'.cell? ⟨g6, i, none⟩ = some (.pointer sp)) (first | exact ((below_drew w4).cell (p := ⟨g6, i, none⟩) l6).trans s6 | exact k6 | exact m6) (first | (go_at_call 12; refine (kind_any _ _).mono ?_; rintro e wk ⟨bk, ck, rfl, htk, hbk⟩; have hbk' := below_then (below_drew w4) hbk; have k6 := (hbk'.cell (p := ⟨g6, i, none⟩) l6).trans s6) | (go_at_call 11; refine (add_no (hr4.below hbk') a (some ⟨bk, 0, none⟩) 1 ck (i : Nat) (by omega) hno).mono ?_; rintro e w5 ⟨rfl, hb5⟩; have hb45 := below_then hbk' hb5; have m6 := (hb45.cell (p := ⟨g6, i, none⟩) l6).trans s6))
            have t7 := (hb45.cell (p := ⟨g7, i, none⟩) l7).trans s7
            have l7' := Nat.lt_of_lt_of_le l7 hb45.size
            clear d0 dl f0 fl s6 s7 k6 m6 e4
            go_wp2_with fail
            have hne : g7 ≠ w3.heap.size := fun h => by have h1 := Z4.out; have h2 := HA4.out.rows; rcases h2.2 with ⟨h3, _⟩ | ⟨gg, cc, cur, h3, _, h4, _⟩; (cases h3); cases h3; rw [h, h1] at h4; injection h4 with h4; injection h4 with _ h4; exact absurd h4 (by decide)
            go_region_held3 (fun w' => w'.cell? ⟨g7, i, none⟩ = some (.slice slp D.length slc)) (first | exact ((below_drew w5).cell (p := ⟨g7, i, none⟩) l7').trans t7 | exact k7 | exact m7 | exact n7) (first | (go_at_call 12; refine (kind_any _ _).mono ?_; rintro e wm ⟨bm, cm, rfl, htm, hbm0⟩; have hbm := below_then (below_drew w5) hbm0; have hbm' := below_then hb45 hbm; have k7 := (hbm.cell (p := ⟨g7, i, none⟩) l7').trans t7) | (go_at_call 13; refine (rAdd_no (H4.out.row.below hbm') a (some ⟨bm, 0, none⟩) 1 cm (i : Nat) (by omega) (H4.out.alike.addNo hno)).mono ?_; rintro e w6 ⟨rfl, hb6⟩; have hB6 := H4.out.below (below_then hbm' hb6); have hlc : C.length ≤ S.length + 1 := (by omega); have hb46 := below_then hbm' hb6; have m7 := ((below_then hbm hb6).cell (p := ⟨g7, i, none⟩) l7').trans t7; have z6 := (hb46.block _ (blk_lt Z4.out)).trans Z4.out; obtain ⟨w7, e7⟩ : ∃ w7, (w6.setCell ⟨w3.heap.size, 0, none⟩ (.slice slp D.length slc)).setCell ⟨w3.heap.size, 1, none⟩ (.bool false) = w7 := ⟨_, rfl⟩; obtain ⟨vr', w8, vl', w9, run1, ⟨t8, t8l⟩, run2, hA9, hb9⟩ := tail_facts (HA4.out.below hb46) z6 h3w hB6 hlc (by omega) (by have := hb46.size; have := HW4.out.size; omega) e7; have zf := blk_free z6; have zl := blk_lt z6; have z60 := blk_cell z6 0; have z61 := blk_cell z6 1; simp only [List.getElem?_toArray, List.getElem?_cons_zero, List.getElem?_cons_succ] at z60 z61; rw [hSi] at run1 run2; have HR1 := Lib.hid run1; have HR2 := Lib.hid run2; have HZ := Lib.hid (And.intro hA9 ((HW4.out.trans (hb46.mono HW4.out.size)).trans hb9)); have n7 : w7.cell? ⟨g7, i, none⟩ = some (.slice slp D.length slc) := (by rw [← e7, World.cell?_of_block (w := w6) (by rw [Below.heap_setCell _ _ _ _ (fun h => hne h), Below.heap_setCell _ _ _ _ (fun h => hne h)])]; exact m7)))
            clear run1 run2 hA9 hb9 hb46 hb5 hb6 hB6 z6 t7 l7' l6 l7 k7 m7 n7 hne
            go_wp2_with (at_builtin; first | refine wpList_append_run rfl _ _ 44 rfl _ _ rfl rfl HR1.out ?_ | refine wpList_append_run rfl _ _ 45 rfl _ _ rfl rfl HR2.out ?_)
            refine ⟨⟨_, i + 1, by simp, by simp; omega, by omega, by omega, HZ.out.1, HZ.out.2⟩, ?_⟩
            simp only [intOf]
            omega
        · rcases end_cases C a t with ⟨m, c, hy⟩ | hno
          · obtain ⟨d, q1, q2, q3, q4⟩ := H4.out.alike.endYes hy
            obtain ⟨y1, y2, y3, y4⟩ := hy
            go_wp2_with fail
            go_at_call 9
            refine (end_yes hr4 H4.out.asc a t (by omega) m c y1 y2 y3 y4).mono ?_
            rintro e w5 ⟨hb5, r5, v5, rfl, hr5⟩
            obtain ⟨p5, rfl⟩ := hr5.cell'
            have t7 := (hb5.cell (p := ⟨g7, i, none⟩) l7).trans s7
            have l7' := Nat.lt_of_lt_of_le l7 hb5.size
            clear d0 dl f0 fl s6 s7 e4
            go_wp2_with fail
            go_at_call 10
            refine (rEnd_yes (H4.out.row.below hb5) (H4.out.alike.asc H4.out.asc) a t (by omega) m d q1 q2 q3 q4).mono ?_
            rintro e w6 ⟨hb6, v6, rfl, hd6⟩
            obtain ⟨CC, DD, hB6, hlc⟩ : ∃ CC DD, Both w6 (.pointer p5) v6 CC DD ∧ CC.length ≤ S.length + 1 := ⟨_, _, ⟨⟨v5, hr5.below hb6⟩, hd6, H4.out.alike.setTo y1 q1 t, H4.out.asc.set y1 t⟩, by simp; omega⟩
            clear hr5 hd6
            obtain ⟨p6, c6', rfl⟩ := hB6.row.slice
            have hb46 := below_then hb5 hb6
            have z6 := (hb46.block _ (blk_lt Z4.out)).trans Z4.out
            obtain ⟨w7, e7⟩ : ∃ w7, (w6.setCell ⟨w3.heap.size, 0, none⟩ (.slice p6 DD.length c6')).setCell ⟨w3.heap.size, 1, none⟩ (.bool true) = w7 := ⟨_, rfl⟩
            obtain ⟨vr', w8, vl', w9, run1, ⟨t8, t8l⟩, run2, hA9, hb9⟩ := tail_facts (HA4.out.below hb46) z6 h3w hB6 hlc (by omega) (by have := hb46.size; have := HW4.out.size; omega) e7
            have zf := blk_free z6
            have zl := blk_lt z6
            have z60 := blk_cell z6 0
            have z61 := blk_cell z6 1
            simp only [List.getElem?_toArray, List.getElem?_cons_zero, List.getElem?_cons_succ] at z60 z61
            rw [hSi] at run1 run2
            have HR1 := Lib.hid run1
            have HR2 := Lib.hid run2
            have HZ := Lib.hid (And.intro hA9 ((HW4.out.trans (hb46.mono HW4.out.size)).trans hb9))
            clear run1 run2 hA9 hb9 hb46 hb5 hb6 hB6 z6 t7 l7' l6 l7
            go_wp2_with (at_builtin; first | refine wpList_append_run rfl _ _ 44 rfl _ _ rfl rfl HR1.out ?_ | refine wpList_append_run rfl _ _ 45 rfl _ _ rfl rfl HR2.out ?_)
            refine ⟨⟨_, i + 1, by simp, by simp; omega, by omega, by omega, HZ.out.1, HZ.out.2⟩, ?_⟩
            simp only [intOf]
            omega
          · go_wp2_with fail
            go_at_call 9
            refine (end_no hr4 H4.out.asc a t (by omega) hno).mono ?_
            rintro e w5 ⟨rfl, hb5⟩
            have t7 := (hb5.cell (p := ⟨g7, i, none⟩) l7).trans s7
            have l7' := Nat.lt_of_lt_of_le l7 hb5.size
            clear d0 dl f0 fl s6 s7 e4
            go_wp2_with fail
            go_at_call 10
            refine (rEnd_no (H4.out.row.below hb5) (H4.out.alike.asc H4.out.asc) a t (by omega) (H4.out.alike.endNo hno)).mono ?_
            rintro e w6 ⟨rfl, hb6⟩
            have hB6 := H4.out.below (below_then hb5 hb6)
            have hlc : C.length ≤ S.length + 1 := (by omega)
            have hb46 := below_then hb5 hb6
            have z6 := (hb46.block _ (blk_lt Z4.out)).trans Z4.out
            obtain ⟨w7, e7⟩ : ∃ w7, (w6.setCell ⟨w3.heap.size, 0, none⟩ (.slice slp D.length slc)).setCell ⟨w3.heap.size, 1, none⟩ (.bool false) = w7 := ⟨_, rfl⟩
            obtain ⟨vr', w8, vl', w9, run1, ⟨t8, t8l⟩, run2, hA9, hb9⟩ := tail_facts (HA4.out.below hb46) z6 h3w hB6 hlc (by omega) (by have := hb46.size; have := HW4.out.size; omega) e7
            have zf := blk_free z6
            have zl := blk_lt z6
            have z60 := blk_cell z6 0
            have z61 := blk_cell z6 1
            simp only [List.getElem?_toArray, List.getElem?_cons_zero, List.getElem?_cons_succ] at z60 z61
            rw [hSi] at run1 run2
            have HR1 := Lib.hid run1
            have HR2 := Lib.hid run2
            have HZ := Lib.hid (And.intro hA9 ((HW4.out.trans (hb46.mono HW4.out.size)).trans hb9))
            clear run1 run2 hA9 hb9 hb46 hb5 hb6 hB6 z6 t7 l7' l6 l7
            go_wp2_with (at_builtin; first | refine wpList_append_run rfl _ _ 44 rfl _ _ rfl rfl HR1.out ?_ | refine wpList_append_run rfl _ _ 45 rfl _ _ rfl rfl HR2.out ?_)
            refine ⟨⟨_, i + 1, by simp, by simp; omega, by omega, by omega, HZ.out.1, HZ.out.2⟩, ?_⟩
            simp only [intOf]
            omega
    · clear H hbw
      rename World => wa
      go_wp2_with fail
      all_goals
        go_loopw [15] (fun vi w2 => ∃ j : Nat, j ≤ S.length ∧ vi = .int .i64 (j : Int) ∧ Below wa.heap.size wa w2) (fun vi _ => S.length - (intOf vi).toNat)
        case atStart => exact ⟨0, Nat.zero_le _, rfl, Below.refl _ _⟩
        case round =>
          obtain ⟨j, hj, rfl, hb2⟩ := hrel
          have HB2 := Lib.hid hb2
          by_cases hlt2 : j < S.length
          · obtain ⟨s, hs⟩ : ∃ s, S[j]? = some s := ⟨_, List.getElem?_eq_getElem hlt2⟩
            obtain ⟨hbs, hsl⟩ := HH.out.each s (List.mem_of_getElem? hs)
            have hr6 := (hb2.cell (p := ⟨g6, j, none⟩) HL.out.2.1).trans (HC.out.1 j (.pointer s.ptr) (by rw [List.getElem?_map, hs]; rfl))
            have hr7 := (hb2.cell (p := ⟨g7, j, none⟩) HL.out.2.2.2).trans (HC.out.2 j s.row (by rw [List.getElem?_map, hs]; rfl))
            have l6 := Nat.lt_of_lt_of_le HL.out.2.1 hb2.size
            have l7 := Nat.lt_of_lt_of_le HL.out.2.2.2 hb2.size
            obtain ⟨sp, slp, slc, C, D⟩ := s
            dsimp only [ST.row] at hr6 hr7 hbs hsl
            have HS := Lib.hid (hbs.below (below_then hb2 (below_drew wr)))
            have HD := Lib.hid (below_then hb2 (below_drew wr))
            clear hs hbs hb2
            go_wp2_with fail
            go_still_tail 8, (by kernel_rfl)
            change wpList _ _ _ _ _ wr.drew
            generalize wr.drew = w3 at HS HD ⊢
            clear hr6 hr7 l6 l7 hg6 hl6 hg7 hl7
            obtain ⟨vf, hrf⟩ := HS.out.roll
            go_wp2_with fail
            go_at_call 14
            refine (tells_any hrf HS.out.row HS.out.alike HS.out.asc (by omega) 3).mono ?_
            rintro e w4 ⟨rfl, hb4⟩
            have H4 := Lib.hid (below_then HD.out hb4)
            clear hb4 hrf
            go_wp2_with fail
            refine ⟨⟨j + 1, by omega, by simp, H4.out⟩, ?_⟩
            simp only [intOf]
            omega
          · clear hb2
            go_wp2_with fail
            go_ret
            exact ⟨rfl, below_then HW.out HB2.out⟩

end Go.Proofs.Ytlndkeofhcneaaa
