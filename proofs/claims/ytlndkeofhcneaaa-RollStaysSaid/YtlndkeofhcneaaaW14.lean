/-
  The walks of the document's find, Find and Live.
-/
import Derived.Test.YtlndkeofhcneaaaK
namespace Go.Proofs.Ytlndkeofhcneaaa
open Go.RowKit Go.Shelf

attribute [local go_sem] Oper.semAt_some

set_option maxHeartbeats 1000000 in
theorem rfind_any {W : World} {v : Value} {C : List EN} (h : IsEnts W v C) (hl : C.length ≤ 1000) (id : Int) :
    Calls Try.prog 20 #[v, .int .i64 id] W fun e w' => w' = W ∧ ((∃ (k : Nat) (c : EN), e = .returned (.int .i64 (k : Int)) ∧ C[k]? = some c ∧ c.id = id) ∨ (e = .returned (.int .i64 (-1)) ∧ ∀ c ∈ C, c.id ≠ id)) := by
  obtain ⟨p, cap, rfl⟩ := h.slice
  have HE := Lib.hid h
  clear h
  go_enter Try.func20, Try.ntmps20
  go_wp2_with fail
  go_loopw [5] (fun vi wr => ∃ i : Nat, i ≤ C.length ∧ vi = .int .i64 (i : Int) ∧ wr = W ∧ ∀ (j : Nat) (c : EN), j < i → C[j]? = some c → c.id ≠ id) (fun vi _ => C.length - (intOf vi).toNat)
  case atStart => exact ⟨0, Nat.zero_le _, rfl, rfl, fun j c h => absurd h (Nat.not_lt_zero _)⟩
  case round =>
    obtain ⟨i, hi, rfl, rfl, hno⟩ := hrel
    have HNO := Lib.hid hno
    clear hno
    by_cases hlt : i < C.length
    · obtain ⟨e, he⟩ : ∃ e, C[i]? = some e := ⟨_, List.getElem?_eq_getElem hlt⟩
      rcases HE.out.cells with ⟨_, rfl⟩ | ⟨g, cap', e1, hg, hcap, hfr, hcell⟩
      · simp at hlt
      · injection e1 with e1 e2 e3
        subst e1; subst e3
        obtain ⟨d0, -, -, -, -⟩ := hcell _ _ he
        clear hcell hfr e2
        by_cases hid : e.id = id
        · have HX := Lib.hid (And.intro he hid)
          rw [hid] at d0
          clear he hid
          go_wp2_with fail
          go_ret
          exact ⟨rfl, .inl ⟨i, e, rfl, HX.out.1, HX.out.2⟩⟩
        · have hq : (e.id == id) = false := by simpa using hid
          have HX := Lib.hid (And.intro he hid)
          clear he
          go_wp2_with fail
          refine ⟨⟨i + 1, by omega, by simp, trivial, fun j c hj hc => ?_⟩, by simp only [intOf]; omega⟩
          by_cases e : j = i
          · subst e
            rw [HX.out.1] at hc
            cases hc
            exact HX.out.2
          · exact HNO.out j c (by omega) hc
    · go_wp2_with fail
      go_ret
      refine ⟨rfl, .inr ⟨rfl, fun c hc => ?_⟩⟩
      obtain ⟨j, hj⟩ := List.getElem?_of_mem hc
      exact HNO.out j c (by have := (List.getElem?_eq_some_iff.1 hj).1; omega) hj

set_option maxHeartbeats 1000000 in
theorem rFind_any {W : World} {v : Value} {C : List EN} (h : IsEnts W v C) (hl : C.length ≤ 1000) (id : Int) :
    Calls Try.prog 24 #[v, .int .i64 id] W fun e w' => Below W.heap.size W w' ∧
      ((∃ c, e = .returned (.tuple #[entV c, .bool true]) ∧ c ∈ C ∧ c.id = id) ∨ (e = .returned (.tuple #[entV ⟨0, 0, 0, none, 0, 0⟩, .bool false]) ∧ ∀ c ∈ C, c.id ≠ id)) := by
  obtain ⟨p, cap, rfl⟩ := h.slice
  have hb0 := below_alloc W (.cells #[.int .i64 0, .int .i64 0, .slice none 0 0, .int .i64 0, .bool false] 48)
  have z := blk_new W (.cells #[.int .i64 0, .int .i64 0, .slice none 0 0, .int .i64 0, .bool false] 48)
  have HE := Lib.hid (h.below hb0)
  have HB := Lib.hid hb0
  obtain ⟨W1, e1⟩ : ∃ W1, W.alloc (.cells #[.int .i64 0, .int .i64 0, .slice none 0 0, .int .i64 0, .bool false] 48) = W1 := ⟨_, rfl⟩
  rw [e1] at HE HB z
  have zf := blk_free z
  have zl := blk_lt z
  have z0 := blk_cell z 0
  have z1 := blk_cell z 1
  have z2 := blk_cell z 2
  have z3 := blk_cell z 3
  have z4 := blk_cell z 4
  simp only [List.getElem?_toArray, List.getElem?_cons_zero, List.getElem?_cons_succ] at z0 z1 z2 z3 z4
  clear h hb0 z
  go_enter Try.func24, Try.ntmps24
  go_wp2_with fail
  go_at_call 20
  refine (rfind_any HE.out hl id).mono ?_
  rintro e w1 ⟨rfl, ⟨k, c, rfl, hc, hid⟩ | ⟨rfl, hno⟩⟩
  · rcases HE.out.cells with ⟨_, rfl⟩ | ⟨g, cap', e2, hg, hcap, hfr, hcell⟩
    · simp at hc
    · injection e2 with e2 e3 e4
      subst e2; subst e4
      obtain ⟨d0, d1, d2, d3, d4⟩ := hcell _ _ hc
      have hil := (List.getElem?_eq_some_iff.1 hc).1
      have HC := Lib.hid (And.intro hc hid)
      clear hcell hfr e3 hc hid e1
      go_wp2_with fail
      try simp only [Exit.inBlock, Exit.then]
      refine bodyPost_ret (v := .tuple #[entV c, .bool true]) ?_ rfl ⟨below_sets5 HB.out (Nat.le_refl _) _ _ _ _ _, .inl ⟨c, rfl, List.mem_of_getElem? HC.out.1, HC.out.2⟩⟩
      unfold entV
      rw [results_cell_tmp rfl]; go_simp
  · have HN := Lib.hid hno
    clear hno e1
    go_wp2_with fail
    try simp only [Exit.inBlock, Exit.then]
    refine bodyPost_ret (v := .tuple #[entV ⟨0, 0, 0, none, 0, 0⟩, .bool false]) ?_ rfl ⟨below_sets5 HB.out (Nat.le_refl _) _ _ _ _ _, .inr ⟨rfl, HN.out⟩⟩
    unfold entV
    rw [results_cell_tmp rfl]; go_simp

/-- 'append(row, entry)': a row of one's own. -/
theorem app_ents {W : World} {B : Nat} {v : Value} {C : List EN} (h : W.ownsRow B 48 5 v C.length (env C)) (e : EN) (hl : C.length ≤ 1000) (hB : B ≤ W.heap.size) (ty : TypeId) :
    ∃ v' W', (Builtin.append_ #[25, 25] ty #[v, .slice (some ⟨W.heap.size, 0, none⟩) 1 1]).run Try.prog (W.alloc (.cells #[.int .i64 e.id, .int .i64 e.to, .slice e.sp e.sn e.sc, .int .i64 e.win, .bool false] 48)) = .ok v' W' ∧
      W'.ownsRow B 48 5 v' (C.length + 1) (env (C ++ [e])) ∧ KeepT (· = 48) W W' ∧ Below B W W' := by
  obtain ⟨i0, hi, hz0, hz1, hz2⟩ := info_parts info48
  have hA := ownsRow_block h (w' := W.alloc (.cells #[.int .i64 e.id, .int .i64 e.to, .slice e.sp e.sn e.sc, .int .i64 e.win, .bool false] 48)) fun b hb => (below_alloc W _).block b (h.lt b hb).2
  obtain ⟨v', W', hrun, hown', hgr, _, hat⟩ := run_append_own_at (P := Try.prog) (W.alloc (.cells #[.int .i64 e.id, .int .i64 e.to, .slice e.sp e.sn e.sc, .int .i64 e.win, .bool false] 48)) B 25 ty 48 i0 _ 5 56 Try.underlying25 hi hz0 hz1 hz2 rfl (by decide) _ C.length (env C) hA
    ⟨W.heap.size, 0, none⟩ 1 1 (ev e) rfl (fun j u hu => by rw [addr_add, blk_cell (blk_new W _) j]; simpa [ev] using hu) (ev_one e) (by unfold maxLen; omega) (by omega) (by rw [World.size_alloc]; omega)
  have hrow : ∀ g, v.ownBlock = some g → ∃ C' t, (W.alloc (.cells #[.int .i64 e.id, .int .i64 e.to, .slice e.sp e.sn e.sc, .int .i64 e.win, .bool false] 48)).heap[g]? = some (.cells C' t) ∧ t = 48 := fun g hg => by
    rcases hA.2 with ⟨rfl, _⟩ | ⟨g', cap, cur, rfl, _, hh, _⟩
    · cases hg
    · cases hg
      exact ⟨_, _, hh, rfl⟩
  refine ⟨v', W', hrun, by rw [env_snoc]; exact hown', (KeepT.of_below (below_alloc W _)).trans (KeepT.of_grown hgr hrow), (below_alloc W _).mono hB |>.trans (below_grown hgr (by rw [World.size_alloc]; omega) fun k hk => (h.lt k hk).1)⟩

set_option maxHeartbeats 2000000 in
theorem rLive_any {W : World} {v : Value} {C : List EN} (h : IsEnts W v C) (hl : C.length ≤ 1000) (at_ : Int) :
    Calls Try.prog 22 #[v, .int .i64 at_] W fun e w' => ∃ vo, e = .returned vo ∧ IsEnts w' vo (liveC at_ C) ∧ Below W.heap.size W w' := by
  obtain ⟨p, cap, rfl⟩ := h.slice
  have HE := Lib.hid h
  clear h
  go_enter Try.func22, Try.ntmps22
  go_wp2_with fail
  go_loopw [5, 6] (fun vo vi wr => ∃ i : Nat, i ≤ C.length ∧ vi = .int .i64 (i : Int) ∧ wr.ownsRow W.heap.size 48 5 vo (liveC at_ (C.take i)).length (env (liveC at_ (C.take i))) ∧ Below W.heap.size W wr) (fun _ vi _ => C.length - (intOf vi).toNat)
  case atStart => exact ⟨0, Nat.zero_le _, rfl, World.ownsRow_nil _ _ _ _, Below.refl _ _⟩
  case round =>
    obtain ⟨i, hi, rfl, hown, hbw⟩ := hrel
    obtain ⟨po, co, rfl⟩ : ∃ p cap, u5 = .slice p (liveC at_ (C.take i)).length cap := by
      rcases hown.2 with ⟨rfl, h0⟩ | ⟨g, cap, cur, rfl, _⟩
      · exact ⟨none, 0, by rw [h0]⟩
      · exact ⟨_, _, rfl⟩
    have hll : (liveC at_ (C.take i)).length ≤ 1000 := Nat.le_trans (liveC_le _ _) (by simp; omega)
    have HO := Lib.hid (And.intro hown hbw)
    by_cases hlt : i < C.length
    · obtain ⟨e, he⟩ : ∃ e, C[i]? = some e := ⟨_, List.getElem?_eq_getElem hlt⟩
      have htk := liveC_take (at_ := at_) he
      rcases (HE.out.below hbw).cells with ⟨_, rfl⟩ | ⟨g, cap', e1, hg, hcap, hfr, hcell⟩
      · simp at hlt
      · injection e1 with e1 e2 e3
        subst e1; subst e3
        obtain ⟨d0, d1, d2, d3, d4⟩ := hcell _ _ he
        have HT := Lib.hid (And.intro htk he)
        obtain ⟨v', w', hrun, ho', hk', hb'⟩ := app_ents hown e hll hbw.size 25
        have HR := Lib.hid hrun
        have HS := Lib.hid (And.intro ho' (And.intro hk' hb'))
        clear hcell hfr e2 htk he hown hrun ho' hk' hb' hbw
        have fin : ∀ (vo : Value) (w2 : World), (livesB at_ e = false ∧ vo = .slice po (liveC at_ (C.take i)).length co ∧ w2 = wr ∨ livesB at_ e = true ∧ vo = v' ∧ w2 = w') →
            (∃ j : Nat, j ≤ C.length ∧ Value.int .i64 ((i : Int) + 1) = .int .i64 (j : Int) ∧ w2.ownsRow W.heap.size 48 5 vo (liveC at_ (C.take j)).length (env (liveC at_ (C.take j))) ∧ Below W.heap.size W w2) ∧
              C.length - (intOf (Value.int .i64 ((i : Int) + 1))).toNat < C.length - (intOf (Value.int .i64 (i : Int))).toNat := by
          intro vo w2 hvo
          refine ⟨⟨i + 1, by omega, by simp, ?_⟩, by simp only [intOf]; omega⟩
          rw [HT.out.1]
          rcases hvo with ⟨hL, rfl, rfl⟩ | ⟨hL, rfl, rfl⟩
          · rw [hL, if_neg (by simp), List.append_nil]
            exact HO.out
          · rw [hL, if_pos rfl, List.length_append]
            exact ⟨HS.out.1, HO.out.2.trans HS.out.2.2⟩
        clear HT HS HO HE
        obtain ⟨eid, eto, ew, esp, esn, esc⟩ := e
        dsimp only at d0 d1 d2 d3 d4 HR fin
        unfold livesB at fin
        dsimp only at fin
        by_cases q1 : eid < at_
        · by_cases q2 : eto = -1
          · subst q2
            go_wp2_with (at_builtin; refine wpList_append_run rfl _ _ 25 rfl _ _ rfl rfl HR.out ?_)
            exact fin _ _ (.inr ⟨by simp [q1], rfl, rfl⟩)
          · have q2' : (eto == -1) = false := by simpa using q2
            have Q2 := Lib.hid q2
            clear q2
            by_cases q3 : at_ ≤ eto
            · go_wp2_with (at_builtin; refine wpList_append_run rfl _ _ 25 rfl _ _ rfl rfl HR.out ?_)
              exact fin _ _ (.inr ⟨by simp [q1, q3], rfl, rfl⟩)
            · go_wp2_with fail
              exact fin _ _ (.inl ⟨by simp [Q2.out, q3], rfl, rfl⟩)
        · go_wp2_with fail
          exact fin _ _ (.inl ⟨by simp [q1], rfl, rfl⟩)
    · have htake : C.take i = C := List.take_of_length_le (by omega)
      rw [htake] at HO ⊢
      clear hown hbw
      go_wp2_with fail
      go_ret
      refine ⟨_, rfl, ⟨ownsRow_zero HO.out.1, fun x hx => (HE.out.tab x (List.mem_filter.1 hx).1).below HO.out.2⟩, HO.out.2⟩

end Go.Proofs.Ytlndkeofhcneaaa
