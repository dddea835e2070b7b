/-
  The walks of Clone and End.
-/
import Derived.Test.YtlndkeofhcneaaaW5
import Derived.Lib.SliceRun
namespace Go.Proofs.Ytlndkeofhcneaaa
open Go.RowKit Go.Shelf

attribute [local go_sem] Oper.semAt_some

theorem wpList_append_run {P : Program} {ops : Array Oper} {rest : List Oper} {o : Oper} {a : Act} {w : World} {Q : Exit → Act → World → Prop} (hgd : o.guard = none) (s x : Operand) (t : TypeId)
    (ho : o.op = .call { callee := .builtin .append, args := #[s, x], argTypes := #[t, t] }) (v x' : Value) (hs : a.eval s = v) (hx : a.eval x = x') {v' : Value} {w' : World}
    (hr : (Builtin.append_ #[t, t] o.type #[v, x']).run P w = .ok v' w') (h : wpList P ops Q rest (a.put o.dst v') w') : wpList P ops Q (o :: rest) a w := by
  refine wpList_plain hgd fun K hK => ?_
  unfold Oper.wp execOp
  simp only [ho, resolve, invoke, builtin, Sem.run_bind, Sem.run_pure, Result.andThen_ok, List.map_toArray, List.map_cons, List.map_nil, hs, hx, hr]
  exact hK _ _ h

/-- All entries, behind nothing. -/
theorem app_all {W : World} {g cap : Nat} {C : List EN} (h : IsEnts W (.slice (some ⟨g, 0, none⟩) C.length cap) C) (hl : C.length ≤ 1000) (ty : TypeId) :
    ∃ g' cap' W3, (Builtin.append_ #[25, 25] ty #[.slice (some ⟨W.heap.size, 0, none⟩) 0 0, .slice (some ⟨g, 0, none⟩) C.length cap]).run Try.prog (W.alloc (.cells #[] 48)) = .ok (.slice (some ⟨g', 0, none⟩) C.length cap') W3 ∧
      IsEnts W3 (.slice (some ⟨g', 0, none⟩) C.length cap') C ∧ W.heap.size ≤ g' ∧ Below W.heap.size W W3 := by
  obtain ⟨i0, hi, hz0, hz1, hz2⟩ := info_parts info48
  have hbA := below_alloc W (.cells #[] 48)
  have hA := h.below hbA
  have hsA : (W.alloc (.cells #[] 48)).heap.size = W.heap.size + 1 := World.size_alloc _ _
  have hown : (W.alloc (.cells #[] 48)).ownsRow W.heap.size 48 5 (.slice (some ⟨W.heap.size, 0, none⟩) 0 0) 0 [] :=
    ⟨rfl, .inr ⟨W.heap.size, 0, #[], rfl, Nat.le_refl _, blk_new W _, Nat.le_refl _, by unfold maxLen; omega, rfl, rfl⟩⟩
  obtain ⟨v', W3, hrun, hown', hgr, hnil, hat⟩ := run_append_own_at (P := Try.prog) (W.alloc (.cells #[] 48)) W.heap.size 25 ty 48 i0 _ 5 56 Try.underlying25 hi hz0 hz1 hz2 rfl (by decide) _ 0 [] hown ⟨g, 0, none⟩ C.length cap (env C) (env_length C)
    (fun j u hu => by rw [addr_add]; exact env_at hA.own j u hu) (env_one C) (by unfold maxLen; omega) (by omega) (by omega)
  rw [Nat.zero_add, List.nil_append] at hown'
  rcases hown'.2 with ⟨e, h0⟩ | ⟨g', cap', cur, rfl, hg, hb, hc, hm, hs, ht⟩
  · exact absurd (hnil.1 e).1 (by simp)
  · have hbel : Below W.heap.size (W.alloc (.cells #[] 48)) W3 := below_grown hgr (by omega) fun k hk => by
      simp [Value.ownBlock] at hk; omega
    refine ⟨g', cap', W3, hrun, ⟨⟨hown'.1, .inr ⟨g', cap', cur, rfl, Nat.zero_le _, hb, hc, hm, hs, ht⟩⟩, fun e he => ?_⟩, hg, hbA.trans hbel⟩
    exact (h.tab e he).below (hbA.trans hbel)

set_option maxHeartbeats 1000000 in
theorem clone_any {W : World} {g cap : Nat} {C : List EN} (h : IsEnts W (.slice (some ⟨g, 0, none⟩) C.length cap) C) (hl : C.length ≤ 1000) :
    Calls Try.prog 19 #[.slice (some ⟨g, 0, none⟩) C.length cap] W fun e w' => ∃ g' cap', e = .returned (.slice (some ⟨g', 0, none⟩) C.length cap') ∧ IsEnts w' (.slice (some ⟨g', 0, none⟩) C.length cap') C ∧ W.heap.size ≤ g' ∧ Below W.heap.size W w' := by
  obtain ⟨g', cap', W3, hrun, hents, hg, hb⟩ := app_all h hl 25
  have HR := Lib.hid hrun
  have HE := Lib.hid (And.intro hents (And.intro hg hb))
  have q25 : ∀ (w : World) (a : Option Addr) (n c n' c' : Nat), (binOp .eql 25 (.slice a n c) (.slice none n' c')).run Try.prog w = .ok (.bool a.isNone) w := fun w a n c n' c' => Lib.run_eql_slice_nil w _ _ a n c n' c' Try.underlying25
  clear hrun hents hg hb h
  go_enter Try.func19, Try.ntmps19
  go_wp2_with (at_builtin; refine wpList_append_run rfl _ _ 25 rfl _ _ rfl rfl HR.out ?_)
  go_ret
  exact ⟨g', cap', rfl, HE.out⟩

theorem below_set {n : Nat} {w w' : World} (h : Below n w w') {p : Addr} (hp : n ≤ p.block) (u : Value) : Below n w (w'.setCell p u) :=
  ⟨h.os, h.tape, h.output, by have := h.size; simpa [World.setCell] using this, fun k hk => (Below.heap_setCell w' p u k (by omega)).trans (h.block k hk)⟩
/-- One's end is set. -/
theorem IsEnts.setTo {W : World} {g cap : Nat} {C : List EN} (h : IsEnts W (.slice (some ⟨g, 0, none⟩) C.length cap) C) {k : Nat} {r : EN} (hr : C[k]? = some r) (x : Int)
    (hout : ∀ e ∈ C, TabOK (W.setCell ⟨g, k * 5 + 1, none⟩ (.int .i64 x)) (.slice e.sp e.sn e.sc) e.win) :
    IsEnts (W.setCell ⟨g, k * 5 + 1, none⟩ (.int .i64 x)) (.slice (some ⟨g, 0, none⟩) C.length cap) (C.set k { r with to := x }) := by
  refine ⟨?_, fun e he => ?_⟩
  · rw [List.length_set, ← env_to C k r x hr]
    exact ownsRow_set h.own _ _
  · rcases List.mem_or_eq_of_mem_set he with he | rfl
    · exact hout e he
    · exact hout r (List.mem_of_getElem? hr)

set_option maxHeartbeats 1000000 in
theorem end_no {W : World} {r v : Value} {C : List EN} (h : IsRoll W r v C) (hs : Asc C) (id at_ : Int) (hl : C.length ≤ 900)
    (hno : (∀ e ∈ C, e.id ≠ id) ∨ ∃ (k : Nat) (e : EN), C[k]? = some e ∧ e.id = id ∧ (e.to ≠ -1 ∨ at_ ≤ id)) :
    Calls Try.prog 9 #[r, .int .i64 id, .int .i64 at_] W fun e w' => e = .returned (.tuple #[r, .bool false]) ∧ Below W.heap.size W w' := by
  have HR := Lib.hid h
  clear h
  go_enter Try.func9, Try.ntmps9
  go_wp2_with fail
  go_at_call 18
  refine (at_any HR.out hs (by omega) id).mono ?_
  rintro e w1 ⟨i, b, rfl, ⟨hi, ht⟩, hb⟩
  rcases ht with ⟨rfl, c, hc, hid⟩ | ⟨rfl, hno2⟩
  · rcases (HR.out.below hb).ptr with ⟨rfl, rfl, rfl⟩ | ⟨b, rfl, hb2⟩
    · simp at hc
    · rcases (HR.out.below hb).ents.cells with ⟨_, rfl⟩ | ⟨g, cap, rfl, hg, hcap, hfr, hcell⟩
      · simp at hc
      · obtain ⟨d0, d1, d2, d3, d4⟩ := hcell _ _ hc
        have e0 := blk_cell hb2 0
        have el := blk_lt hb2
        simp only [List.getElem?_toArray, List.getElem?_cons_zero] at e0
        have hil := (List.getElem?_eq_some_iff.1 hc).1
        have hcase : c.to ≠ -1 ∨ at_ ≤ id := by
          rcases hno with hno | ⟨k, e, he, heid, hx⟩
          · exact absurd hid (hno c (List.mem_of_getElem? hc))
          · have : k = i := by
              rcases Nat.lt_trichotomy k i with h | h | h
              · have := hs k i e c he hc h; omega
              · exact h
              · have := hs i k c e hc he h; omega
            subst this
            rw [hc] at he; cases he; exact hx
        have HB := Lib.hid hb
        clear hb hb2 hcell hc hfr hno hs
        by_cases hto : c.to = -1
        · have h2 : at_ ≤ id := by omega
          clear hcase
          go_wp2_with fail
          go_ret2
          exact ⟨rfl, HB.out⟩
        · have hto2 : (c.to != -1) = true := by simpa using hto
          clear hcase
          go_wp2_with fail
          go_ret2
          exact ⟨rfl, HB.out⟩
  · go_wp2_with fail
    go_ret2
    exact ⟨rfl, hb⟩

set_option maxHeartbeats 1000000 in
theorem end_yes {W : World} {r v : Value} {C : List EN} (h : IsRoll W r v C) (hs : Asc C) (id at_ : Int) (hl : C.length ≤ 900) (i : Nat) (c : EN) (hc : C[i]? = some c) (hid : c.id = id) (hto : c.to = -1) (hat : id < at_) :
    Calls Try.prog 9 #[r, .int .i64 id, .int .i64 at_] W fun e w' => Below W.heap.size W w' ∧ ∃ r' v', e = .returned (.tuple #[r', .bool true]) ∧ IsRoll w' r' v' (C.set i { c with to := at_ }) := by
  have HR := Lib.hid h
  clear h
  go_enter Try.func9, Try.ntmps9
  go_wp2_with fail
  go_at_call 18
  refine (at_any HR.out hs (by omega) id).mono ?_
  rintro e w1 ⟨i', b, rfl, ⟨hi', ht⟩, hb⟩
  rcases ht with ⟨rfl, c', hc', hid'⟩ | ⟨rfl, hno2⟩
  · have : i' = i := by
      rcases Nat.lt_trichotomy i' i with h | h | h
      · have := hs i' i c' c hc' hc h; omega
      · exact h
      · have := hs i i' c c' hc hc' h; omega
    subst this
    rw [hc] at hc'; cases hc'
    rcases (HR.out.below hb).ptr with ⟨rfl, rfl, rfl⟩ | ⟨b, rfl, hb2⟩
    · simp at hc
    · rcases (HR.out.below hb).ents.cells with ⟨_, rfl⟩ | ⟨g, cap, rfl, hg, hcap, hfr, hcell⟩
      · simp at hc
      · have hents1 := (HR.out.below hb).ents
        obtain ⟨d0, d1, d2, d3, d4⟩ := hcell _ _ hc
        rw [hto] at d1
        have e0 := blk_cell hb2 0
        have el := blk_lt hb2
        simp only [List.getElem?_toArray, List.getElem?_cons_zero] at e0
        have hil := (List.getElem?_eq_some_iff.1 hc).1
        have HE := Lib.hid hents1
        have HB := Lib.hid (And.intro hb hc)
        have HT := Lib.hid hto
        clear hb hb2 hcell hc hfr hs hents1 hto hid'
        go_wp2_with fail
        go_at_call 19
        refine (clone_any HE.out (by omega)).mono ?_
        rintro e w2 ⟨g', cap', rfl, hents2, hg', hb2⟩
        rcases hents2.cells with ⟨h1, _⟩ | ⟨g2, cap2, h1, hg2, hcap2, hfr2, hcell2⟩
        · cases h1
        cases h1
        obtain ⟨m0, m1, _⟩ := hcell2 _ _ HB.out.2
        have f1 := hfr2 (i' * 5 + 1)
        have hb3 := below_set (p := ⟨g', i' * 5 + 1, none⟩) (below_then HB.out.1 hb2) (by have := HB.out.1.size; show W.heap.size ≤ g'; omega) (.int .i64 at_)
        have hb4 := below_set (p := ⟨g', i' * 5 + 1, none⟩) hb2 (by show w1.heap.size ≤ g'; omega) (.int .i64 at_)
        have hents3 := hents2.setTo HB.out.2 at_ fun e he => (HE.out.tab e he).below hb4
        have HF := Lib.hid (And.intro hb3 hents3)
        clear hcell2 hfr2 hb2 hb3 hb4 hents2 hents3
        go_wp2_with fail
        go_ret2
        have hsz : (w2.setCell ⟨g', i' * 5 + 1, none⟩ (.int .i64 at_)).heap.size = w2.heap.size := by simp [World.setCell]
        have hnew := blk_new (w2.setCell ⟨g', i' * 5 + 1, none⟩ (.int .i64 at_)) (.cells #[.slice (some ⟨g', 0, none⟩) C.length cap'] 58)
        rw [hsz] at hnew
        exact ⟨below_then HF.out.1 (below_alloc _ _), _, .slice (some ⟨g', 0, none⟩) C.length cap', rfl, .inr ⟨_, rfl, hnew⟩, HF.out.2.below (below_alloc _ _)⟩
  · exact absurd hid (hno2 c (List.mem_of_getElem? hc))

end Go.Proofs.Ytlndkeofhcneaaa
