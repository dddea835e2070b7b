/-
  The walk of tells.
-/
import Derived.Test.YtlndkeofhcneaaaW14
import Derived.Test.YtlndkeofhcneaaaW17
namespace Go.Proofs.Ytlndkeofhcneaaa
open Go.RowKit Go.Shelf

attribute [local go_sem] Oper.semAt_some

theorem Alike.nil : Alike [] [] := ⟨rfl, fun j c d h => by simp at h⟩
theorem Alike.cons {C D : List EN} {c d : EN} (h : AlikeE c d) (k : Alike C D) : Alike (c :: C) (d :: D) :=
  ⟨by simp [k.len], fun j x y hx hy => by
    cases j with
    | zero => simp at hx hy; subst hx; subst hy; exact h
    | succ j => exact k.each j x y (by simpa using hx) (by simpa using hy)⟩
theorem Alike.head {C D : List EN} {c d : EN} (h : Alike (c :: C) (d :: D)) : AlikeE c d ∧ Alike C D :=
  ⟨h.each 0 c d rfl rfl, by simpa using h.len, fun j x y hx hy => h.each (j + 1) x y (by simpa using hx) (by simpa using hy)⟩
theorem lives_alike {c d : EN} (h : AlikeE c d) (k : Int) : livesB k c = livesB k d := by
  unfold livesB
  rw [h.id, h.to]
theorem Alike.live : ∀ {C D : List EN} (_ : Alike C D) (k : Int), Alike (liveC k C) (liveC k D)
  | [], [], _, _ => Alike.nil
  | [], _ :: _, h, _ => absurd h.len (by simp)
  | _ :: _, [], h, _ => absurd h.len (by simp)
  | c :: C, d :: D, h, k => by
    obtain ⟨h1, h2⟩ := h.head
    have ih := Alike.live h2 k
    unfold liveC at ih ⊢
    rw [List.filter_cons, List.filter_cons, lives_alike h1 k]
    split
    · exact ih.cons h1
    · exact ih
theorem Alike.asc {C D : List EN} (h : Alike C D) (ha : Asc C) : Asc D := fun j k a b hja hkb hjk => by
  have hlj := (List.getElem?_eq_some_iff.1 hja).1
  have hlk := (List.getElem?_eq_some_iff.1 hkb).1
  have hlen := h.len
  obtain ⟨a', ha'⟩ : ∃ e, C[j]? = some e := ⟨_, List.getElem?_eq_getElem (by omega)⟩
  obtain ⟨b', hb'⟩ : ∃ e, C[k]? = some e := ⟨_, List.getElem?_eq_getElem (by omega)⟩
  have e1 := (h.each j a' a ha' hja).id
  have e2 := (h.each k b' b hb' hkb).id
  have := ha j k a' b' ha' hb' hjk
  omega
/-- What Find tells in both. -/
def Pair (W : World) (c d : EN) : Prop :=
  (TabOK W (.slice c.sp c.sn c.sc) c.win ∧ TabOK W (.slice d.sp d.sn d.sc) d.win ∧ AlikeE c d) ∨ (c = ⟨0, 0, 0, none, 0, 0⟩ ∧ d = ⟨0, 0, 0, none, 0, 0⟩)
theorem Pair.id {W : World} {c d : EN} (h : Pair W c d) : d.id = c.id ∧ d.to = c.to := by
  rcases h with ⟨_, _, h⟩ | ⟨rfl, rfl⟩
  · exact ⟨h.id.symm, h.to.symm⟩
  · exact ⟨rfl, rfl⟩
theorem Pair.same {W W' : World} {c d : EN} (h : Pair W c d) (hb : Below W.heap.size W W') :
    Calls Try.prog 25 #[tabV c.sp c.sn c.sc c.win, tabV d.sp d.sn d.sc d.win] W' fun e w' => e = .returned (.bool true) ∧ Below W'.heap.size W' w' := by
  rcases h with ⟨h1, h2, h3⟩ | ⟨rfl, rfl⟩
  · exact same_tab (h1.below hb) (h2.below hb) h3
  · exact same_nil W'
theorem find_pair {W : World} {v lv : Value} {C D : List EN} (hC : IsEnts W v C) (hD : IsEnts W lv D) (h : Alike C D) (ha : Asc C) {k : Int} {x y : Ending}
    (hx : (∃ c, x = .returned (.tuple #[entV c, .bool true]) ∧ c ∈ C ∧ c.id = k) ∨ (x = .returned (.tuple #[entV ⟨0, 0, 0, none, 0, 0⟩, .bool false]) ∧ ∀ c ∈ C, c.id ≠ k))
    (hy : (∃ c, y = .returned (.tuple #[entV c, .bool true]) ∧ c ∈ D ∧ c.id = k) ∨ (y = .returned (.tuple #[entV ⟨0, 0, 0, none, 0, 0⟩, .bool false]) ∧ ∀ c ∈ D, c.id ≠ k)) :
    ∃ c d tb, x = .returned (.tuple #[entV c, .bool tb]) ∧ y = .returned (.tuple #[entV d, .bool tb]) ∧ Pair W c d := by
  have hlen := h.len
  rcases hx with ⟨c, rfl, hc, hck⟩ | ⟨rfl, hno⟩ <;> rcases hy with ⟨d, rfl, hd, hdk⟩ | ⟨rfl, hno'⟩
  · obtain ⟨j, hj⟩ := List.getElem?_of_mem hc
    obtain ⟨j', hj'⟩ := List.getElem?_of_mem hd
    obtain ⟨c', hc'⟩ : ∃ e, C[j']? = some e := ⟨_, List.getElem?_eq_getElem (by have := (List.getElem?_eq_some_iff.1 hj').1; omega)⟩
    have e1 := (h.each _ _ _ hc' hj').id
    have : j = j' := ha.one hj hc' (by omega)
    subst this
    exact ⟨c, d, true, rfl, rfl, .inl ⟨hC.tab c hc, hD.tab d hd, h.each _ _ _ hj hj'⟩⟩
  · obtain ⟨j, hj⟩ := List.getElem?_of_mem hc
    obtain ⟨d', hd'⟩ : ∃ e, D[j]? = some e := ⟨_, List.getElem?_eq_getElem (by have := (List.getElem?_eq_some_iff.1 hj).1; omega)⟩
    have e1 := (h.each _ _ _ hj hd').id
    exact absurd (by omega) (hno' d' (List.mem_of_getElem? hd'))
  · obtain ⟨j, hj⟩ := List.getElem?_of_mem hd
    obtain ⟨d', hd'⟩ : ∃ e, C[j]? = some e := ⟨_, List.getElem?_eq_getElem (by have := (List.getElem?_eq_some_iff.1 hj).1; omega)⟩
    have e1 := (h.each _ _ _ hd' hj).id
    exact absurd (by omega) (hno d' (List.mem_of_getElem? hd'))
  · exact ⟨_, _, false, rfl, rfl, .inr ⟨rfl, rfl⟩⟩

theorem told_inj {c c' : EN} {tb tb' : Bool} (h : Ending.returned (.tuple #[entV c, .bool tb]) = .returned (.tuple #[entV c', .bool tb'])) : c = c' ∧ tb = tb' := by
  cases c
  cases c'
  simp [entV] at h
  simp [h]

set_option maxHeartbeats 8000000 in
theorem tells_any {W : World} {r v lv : Value} {C D : List EN} (hr : IsRoll W r v C) (hd : IsEnts W lv D) (hs : Alike C D) (ha : Asc C) (hl : C.length ≤ 900) (at_ : Int) :
    Calls Try.prog 14 #[r, lv, .int .i64 at_] W fun e w' => e = .returned (.bool true) ∧ Below W.heap.size W w' := by
  have hlD : D.length ≤ 900 := by have := hs.len; omega
  have HR := Lib.hid hr
  have HD := Lib.hid hd
  have HS := Lib.hid (And.intro hs ha)
  obtain ⟨pr, rfl⟩ := hr.cell'
  obtain ⟨pl, cl, rfl⟩ := hd.slice
  clear hr hd hs ha
  go_enter Try.func14, Try.ntmps14
  go_wp2_with fail
  go_loopw [7] (fun vi wr => ∃ n : Int, -2 ≤ n ∧ n ≤ 14 ∧ vi = .int .i64 n ∧ Below W.heap.size W wr) (fun vi _ => (14 - intOf vi).toNat)
  case atStart => exact ⟨-2, by omega, by omega, rfl, Below.refl _ _⟩
  case round =>
    obtain ⟨n, hn1, hn2, rfl, hbw⟩ := hrel
    have HW := Lib.hid hbw
    clear hbw
    by_cases hlt : n < 14
    · by_cases hn : n = -2
      · subst hn
        go_wp2_with fail
        go_at_call 22
        refine (rLive_any (HD.out.below HW.out) (by omega) at_).mono ?_
        rintro e w1 ⟨vo, rfl, hvo, hb1⟩
        obtain ⟨po, co, rfl⟩ := hvo.slice
        have hvl := (HS.out.1.live at_).len
        have H1 := Lib.hid (below_then HW.out hb1)
        have HV1 := Lib.hid hvo
        clear hvo hb1
        go_wp2_with fail
        go_at_call 17
        refine (live_any at_ (HR.out.below H1.out) (by omega)).mono ?_
        rintro e w2 ⟨vp, rfl, hvp, hb2⟩
        have H2 := Lib.hid (below_then H1.out hb2)
        have HV2 := Lib.hid (HV1.out.below hb2)
        have HP2 := Lib.hid hvp
        clear hvp hb2
        go_wp2_with fail
        go_at_call 23
        refine (same_any HP2.out HV2.out (HS.out.1.live at_) (Nat.le_trans (liveC_le _ _) (by omega))).mono ?_
        rintro e w3 ⟨rfl, hb3⟩
        have H3 := Lib.hid (below_then H2.out hb3)
        clear hb3
        go_wp2_with fail
        go_at_call 15
        refine (find_any (HR.out.below H3.out) HS.out.2 (by omega) at_).mono ?_
        rintro x w4 ⟨hb4, hx⟩
        have H4 := Lib.hid (below_then H3.out hb4)
        clear hb4
        have key := fun (w : World) (hw : Below W.heap.size W w) (y : Ending) hy => find_pair (HR.out.ents.below hw) (HD.out.below hw) HS.out.1 HS.out.2 (k := at_) (x := x) (y := y) hx hy
        obtain ⟨c, tb, rfl, htb⟩ : ∃ c tb, x = .returned (.tuple #[entV c, .bool tb]) ∧ True := by
          rcases hx with ⟨c, h, _⟩ | ⟨h, _⟩
          · exact ⟨c, true, h, trivial⟩
          · exact ⟨_, false, h, trivial⟩
        have HK := Lib.hid key
        clear key hx htb
        unfold entV
        go_wp2_with fail
        obtain ⟨w5, e5⟩ : ∃ w5, w4.alloc (Obj.cells #[Value.int IntKind.i64 c.id, Value.int IntKind.i64 c.to, Value.slice c.sp c.sn c.sc, Value.int IntKind.i64 c.win, Value.bool false] 48) = w5 := ⟨_, rfl⟩
        have z5 : w5.heap[w4.heap.size]? = some (.cells #[Value.int IntKind.i64 c.id, Value.int IntKind.i64 c.to, Value.slice c.sp c.sn c.sc, Value.int IntKind.i64 c.win, Value.bool false] 48) := by rw [← e5]; exact blk_new _ _
        have H5 := Lib.hid (show Below W.heap.size W w5 from by rw [← e5]; exact below_then H4.out (below_alloc _ _))
        rw [e5]
        clear e5
        generalize w4.heap.size = b4 at z5 ⊢
        have Z5 := Lib.hid z5
        clear z5
        go_at_call 24
        refine (rFind_any (HD.out.below H5.out) (by omega) at_).mono ?_
        rintro y w6 ⟨hb6, hy⟩
        obtain ⟨c', d, tb', e1, rfl, hp⟩ := HK.out w5 H5.out y hy
        obtain ⟨rfl, rfl⟩ := told_inj e1
        have z6 := (hb6.block _ (blk_lt Z5.out)).trans Z5.out
        have y2 := blk_cell z6 2
        have y3 := blk_cell z6 3
        have y4 := blk_cell z6 4
        have yl := blk_lt z6
        simp only [List.getElem?_toArray, List.getElem?_cons_zero, List.getElem?_cons_succ] at y2 y3 y4
        have H6 := Lib.hid (below_then H5.out hb6)
        have HP := Lib.hid hp
        have HB6 := Lib.hid hb6
        have Z6 := Lib.hid z6
        have hid := hp.id.1
        have hto := hp.id.2
        clear hb6 hp z6 e1 hy
        unfold entV
        rw [hid, hto]
        clear hid hto
        go_wp2_with fail
        obtain ⟨w7, e7⟩ : ∃ w7, w6.alloc (Obj.cells #[Value.int IntKind.i64 c.id, Value.int IntKind.i64 c.to, Value.slice d.sp d.sn d.sc, Value.int IntKind.i64 d.win, Value.bool false] 48) = w7 := ⟨_, rfl⟩
        have z7 : w7.heap[w6.heap.size]? = some (.cells #[Value.int IntKind.i64 c.id, Value.int IntKind.i64 c.to, Value.slice d.sp d.sn d.sc, Value.int IntKind.i64 d.win, Value.bool false] 48) := by rw [← e7]; exact blk_new _ _
        have hb7 : Below w6.heap.size w6 w7 := by rw [← e7]; exact below_alloc _ _
        rw [e7]
        clear e7
        generalize hb6' : w6.heap.size = b6 at z7 ⊢
        have Z7 := Lib.hid z7
        have Z57 := Lib.hid ((hb7.block _ (blk_lt Z6.out)).trans Z6.out)
        have HB7 := Lib.hid (below_then HB6.out hb7)
        have H7 := Lib.hid (below_then H6.out hb7)
        clear z7 hb7 y2 y3 y4 yl hb6'
        go_at_call 25
        refine (HP.out.same HB7.out).mono ?_
        rintro e w8 ⟨rfl, hb8⟩
        have Z8 := Lib.hid ((hb8.block _ (blk_lt Z7.out)).trans Z7.out)
        have Z58 := Lib.hid ((hb8.block _ (blk_lt Z57.out)).trans Z57.out)
        have H8 := Lib.hid (below_then H7.out hb8)
        clear hb8
        go_wp2_with fail
        go_at_call 16
        refine (len_any at_ (HR.out.below H8.out) (by omega)).mono ?_
        rintro e w9 ⟨rfl, hb9⟩
        rw [hvl]
        have z9 := (hb9.block _ (blk_lt Z8.out)).trans Z8.out
        have z59 := (hb9.block _ (blk_lt Z58.out)).trans Z58.out
        have y0 := blk_cell z9 0
        have y1 := blk_cell z9 1
        have yl := blk_lt z9
        have x0 := blk_cell z59 0
        have x1 := blk_cell z59 1
        have xl := blk_lt z59
        simp only [List.getElem?_toArray, List.getElem?_cons_zero, List.getElem?_cons_succ] at y0 y1 x0 x1
        have H9 := Lib.hid (below_then H8.out hb9)
        clear hb9 z9 z59 hvl
        go_wp2_with fail
        refine ⟨⟨_, ?_, ?_, rfl, H9.out⟩, ?_⟩
        · omega
        · omega
        · simp only [intOf]; omega
      ·
        go_wp2_with fail
        go_at_call 22
        refine (rLive_any (HD.out.below HW.out) (by omega) n).mono ?_
        rintro e w1 ⟨vo, rfl, hvo, hb1⟩
        obtain ⟨po, co, rfl⟩ := hvo.slice
        have hvl := (HS.out.1.live n).len
        have H1 := Lib.hid (below_then HW.out hb1)
        have HV1 := Lib.hid hvo
        clear hvo hb1
        go_wp2_with fail
        go_at_call 17
        refine (live_any n (HR.out.below H1.out) (by omega)).mono ?_
        rintro e w2 ⟨vp, rfl, hvp, hb2⟩
        have H2 := Lib.hid (below_then H1.out hb2)
        have HV2 := Lib.hid (HV1.out.below hb2)
        have HP2 := Lib.hid hvp
        clear hvp hb2
        go_wp2_with fail
        go_at_call 23
        refine (same_any HP2.out HV2.out (HS.out.1.live n) (Nat.le_trans (liveC_le _ _) (by omega))).mono ?_
        rintro e w3 ⟨rfl, hb3⟩
        have H3 := Lib.hid (below_then H2.out hb3)
        clear hb3
        go_wp2_with fail
        go_at_call 15
        refine (find_any (HR.out.below H3.out) HS.out.2 (by omega) n).mono ?_
        rintro x w4 ⟨hb4, hx⟩
        have H4 := Lib.hid (below_then H3.out hb4)
        clear hb4
        have key := fun (w : World) (hw : Below W.heap.size W w) (y : Ending) hy => find_pair (HR.out.ents.below hw) (HD.out.below hw) HS.out.1 HS.out.2 (k := n) (x := x) (y := y) hx hy
        obtain ⟨c, tb, rfl, htb⟩ : ∃ c tb, x = .returned (.tuple #[entV c, .bool tb]) ∧ True := by
          rcases hx with ⟨c, h, _⟩ | ⟨h, _⟩
          · exact ⟨c, true, h, trivial⟩
          · exact ⟨_, false, h, trivial⟩
        have HK := Lib.hid key
        clear key hx htb
        unfold entV
        go_wp2_with fail
        obtain ⟨w5, e5⟩ : ∃ w5, w4.alloc (Obj.cells #[Value.int IntKind.i64 c.id, Value.int IntKind.i64 c.to, Value.slice c.sp c.sn c.sc, Value.int IntKind.i64 c.win, Value.bool false] 48) = w5 := ⟨_, rfl⟩
        have z5 : w5.heap[w4.heap.size]? = some (.cells #[Value.int IntKind.i64 c.id, Value.int IntKind.i64 c.to, Value.slice c.sp c.sn c.sc, Value.int IntKind.i64 c.win, Value.bool false] 48) := by rw [← e5]; exact blk_new _ _
        have H5 := Lib.hid (show Below W.heap.size W w5 from by rw [← e5]; exact below_then H4.out (below_alloc _ _))
        rw [e5]
        clear e5
        generalize w4.heap.size = b4 at z5 ⊢
        have Z5 := Lib.hid z5
        clear z5
        go_at_call 24
        refine (rFind_any (HD.out.below H5.out) (by omega) n).mono ?_
        rintro y w6 ⟨hb6, hy⟩
        obtain ⟨c', d, tb', e1, rfl, hp⟩ := HK.out w5 H5.out y hy
        obtain ⟨rfl, rfl⟩ := told_inj e1
        have z6 := (hb6.block _ (blk_lt Z5.out)).trans Z5.out
        have y2 := blk_cell z6 2
        have y3 := blk_cell z6 3
        have y4 := blk_cell z6 4
        have yl := blk_lt z6
        simp only [List.getElem?_toArray, List.getElem?_cons_zero, List.getElem?_cons_succ] at y2 y3 y4
        have H6 := Lib.hid (below_then H5.out hb6)
        have HP := Lib.hid hp
        have HB6 := Lib.hid hb6
        have Z6 := Lib.hid z6
        have hid := hp.id.1
        have hto := hp.id.2
        clear hb6 hp z6 e1 hy
        unfold entV
        rw [hid, hto]
        clear hid hto
        go_wp2_with fail
        obtain ⟨w7, e7⟩ : ∃ w7, w6.alloc (Obj.cells #[Value.int IntKind.i64 c.id, Value.int IntKind.i64 c.to, Value.slice d.sp d.sn d.sc, Value.int IntKind.i64 d.win, Value.bool false] 48) = w7 := ⟨_, rfl⟩
        have z7 : w7.heap[w6.heap.size]? = some (.cells #[Value.int IntKind.i64 c.id, Value.int IntKind.i64 c.to, Value.slice d.sp d.sn d.sc, Value.int IntKind.i64 d.win, Value.bool false] 48) := by rw [← e7]; exact blk_new _ _
        have hb7 : Below w6.heap.size w6 w7 := by rw [← e7]; exact below_alloc _ _
        rw [e7]
        clear e7
        generalize hb6' : w6.heap.size = b6 at z7 ⊢
        have Z7 := Lib.hid z7
        have Z57 := Lib.hid ((hb7.block _ (blk_lt Z6.out)).trans Z6.out)
        have HB7 := Lib.hid (below_then HB6.out hb7)
        have H7 := Lib.hid (below_then H6.out hb7)
        clear z7 hb7 y2 y3 y4 yl hb6'
        go_at_call 25
        refine (HP.out.same HB7.out).mono ?_
        rintro e w8 ⟨rfl, hb8⟩
        have Z8 := Lib.hid ((hb8.block _ (blk_lt Z7.out)).trans Z7.out)
        have Z58 := Lib.hid ((hb8.block _ (blk_lt Z57.out)).trans Z57.out)
        have H8 := Lib.hid (below_then H7.out hb8)
        clear hb8
        go_wp2_with fail
        go_at_call 16
        refine (len_any n (HR.out.below H8.out) (by omega)).mono ?_
        rintro e w9 ⟨rfl, hb9⟩
        rw [hvl]
        have z9 := (hb9.block _ (blk_lt Z8.out)).trans Z8.out
        have z59 := (hb9.block _ (blk_lt Z58.out)).trans Z58.out
        have y0 := blk_cell z9 0
        have y1 := blk_cell z9 1
        have yl := blk_lt z9
        have x0 := blk_cell z59 0
        have x1 := blk_cell z59 1
        have xl := blk_lt z59
        simp only [List.getElem?_toArray, List.getElem?_cons_zero, List.getElem?_cons_succ] at y0 y1 x0 x1
        have H9 := Lib.hid (below_then H8.out hb9)
        clear hb9 z9 z59 hvl
        go_wp2_with fail
        refine ⟨⟨_, ?_, ?_, rfl, H9.out⟩, ?_⟩
        · omega
        · omega
        · simp only [intOf]; omega
    · go_wp2_with fail
      go_ret
      exact ⟨rfl, HW.out⟩

end Go.Proofs.Ytlndkeofhcneaaa
