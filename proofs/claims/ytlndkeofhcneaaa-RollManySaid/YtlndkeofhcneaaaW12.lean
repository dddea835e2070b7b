/-
  The walk of RollMany.
-/
import Derived.Test.YtlndkeofhcneaaaOpen
import Derived.Deep.QuietTactic
namespace Go.Proofs.Ytlndkeofhcneaaa
open Go.RowKit Go.Shelf

attribute [local go_sem] Oper.semAt_some

def idsC (C : List EN) : List Value := C.map fun e => .int .i64 e.id

structure ManyOK (w wr : World) (n : Nat) (C : List EN) (v vr : Value) (id : Int) (vids : Value) : Prop where
  roll : IsRoll wr vr v C
  len : C.length ≤ n
  len20 : C.length ≤ 20
  asc : Asc C
  all : ∀ e ∈ C, 0 ≤ e.id ∧ e.id ≤ id ∧ e.to = -1
  win : ∀ (j : Nat) (e : EN), C[j]? = some e → e.win = (j : Int)
  lo : -1 ≤ id
  hi : id ≤ 9 * (C.length : Int) - 1
  ids : wr.ownsRow w.heap.size 3 1 vids C.length (idsC C)
  bel : Below w.heap.size w wr

def ManyRel (w : World) (n : Nat) (vr vid vids vi : Value) (wr : World) : Prop :=
  ∃ (C : List EN) (v : Value) (id : Int), vid = .int .i64 id ∧ vi = .int .i64 ((C.length : Nat) : Int) ∧ ManyOK w wr n C v vr id vids

theorem own_slice {w : World} {b : Nat} {e : TypeId} {size : Nat} {v : Value} {n : Nat} {xs : List Value} (h : w.ownsRow b e size v n xs) : ∃ p cap, v = .slice p n cap := by
  rcases h.2 with ⟨rfl, rfl⟩ | ⟨g, cap, cur, rfl, _⟩
  · exact ⟨none, 0, rfl⟩
  · exact ⟨_, _, rfl⟩

theorem info3 : (Try.prog.info? 3).map (fun i => (i.zero, i.size, i.bytes)) = some (some (.int .i64 0), 1, 8) := by kernel_rfl
theorem app_ids {W : World} {B N : Nat} {v : Value} {xs : List Value} (h : W.ownsRow B 3 1 v N xs) (x : Int) (hl : N ≤ 100) (hB : B ≤ W.heap.size) (ty : TypeId) :
    ∃ v' W', (Builtin.append_ #[43, 43] ty #[v, .slice (some ⟨W.heap.size, 0, none⟩) 1 1]).run Try.prog (W.alloc (.cells #[.int .i64 x] 3)) = .ok v' W' ∧ W'.ownsRow B 3 1 v' (N + 1) (xs ++ [.int .i64 x]) ∧ KeepT (· = 3) W W' ∧ Below B W W' := by
  obtain ⟨i0, hi, hz0, hz1, hz2⟩ := info_parts info3
  have hA : (W.alloc (.cells #[.int .i64 x] 3)).ownsRow B 3 1 v N xs := ownsRow_block h fun b hb => (below_alloc W _).block b (h.lt b hb).2
  obtain ⟨v', W', hrun, hown', hgr, _, hat⟩ := run_append_own_at (P := Try.prog) (W.alloc (.cells #[.int .i64 x] 3)) B 43 ty 3 i0 (.int .i64 0) 1 8 Try.underlying43 hi hz0 hz1 hz2 rfl (by decide) _ N xs hA ⟨W.heap.size, 0, none⟩ 1 1 [.int .i64 x] rfl
    (fun j u hu => by
      match j, hu with
      | 0, hu => simp at hu; subst hu; simp [Addr.add, blk_cell (blk_new W (.cells #[.int .i64 x] 3)) 0]) (by simp [Value.oneCell']) (by unfold maxLen; omega) (by omega) (by rw [World.size_alloc]; omega)
  have hrow : ∀ g, v.ownBlock = some g → ∃ C t, (W.alloc (.cells #[.int .i64 x] 3)).heap[g]? = some (.cells C t) ∧ t = 3 := fun g hg => by
    rcases hA.2 with ⟨rfl, _⟩ | ⟨g', cap, cur, rfl, _, hh, _⟩
    · cases hg
    · cases hg
      exact ⟨_, _, hh, rfl⟩
  refine ⟨v', W', hrun, hown', (KeepT.of_below (below_alloc W _)).trans (KeepT.of_grown hgr hrow), (below_alloc W _).mono hB |>.trans (below_grown hgr (by rw [World.size_alloc]; omega) fun k hk => (h.lt k hk).1)⟩

theorem ManyOK.step {w wr w5 w6 : World} {n : Nat} {C : List EN} {v vr vids v6 r3 v3 : Value} {id id' : Int} {bk ck : Nat} (H : ManyOK w wr n C v vr id vids) (hlt : C.length < n ∧ C.length < 20) (hid : id + 1 ≤ id' ∧ id' ≤ id + 9)
    (hb : Below wr.heap.size wr w5) (h5 : IsRoll w5 r3 v3 (C ++ [⟨id', -1, (C.length : Nat), some ⟨bk, 0, none⟩, 1, ck⟩])) (ho : w6.ownsRow w.heap.size 3 1 v6 (C.length + 1) (idsC C ++ [.int .i64 id'])) (hk : KeepT (· = 3) w5 w6) (hb6 : Below w.heap.size w5 w6) :
    ManyOK w w6 n (C ++ [⟨id', -1, (C.length : Nat), some ⟨bk, 0, none⟩, 1, ck⟩]) v3 r3 id' v6 := by
  refine ⟨h5.keep hk (by decide) (by decide) (by decide), by simp; omega, by simp; omega, H.asc.snoc fun e he => ?_, fun e he => ?_, fun j e he => ?_, by have := H.lo; omega, by have := H.hi; simp; omega, ?_, (H.bel.trans (hb.mono H.bel.size)).trans hb6⟩
  · have := H.all e (List.mem_of_getElem? he); show e.id < id'; omega
  · rcases List.mem_append.1 he with he | he
    · have := H.all e he; omega
    · obtain rfl := List.mem_singleton.1 he
      have := H.lo
      exact ⟨by show 0 ≤ id'; omega, Int.le_refl _, rfl⟩
  · by_cases hj : j < C.length
    · rw [List.getElem?_append_left hj] at he
      exact H.win j e he
    · have := (List.getElem?_eq_some_iff.1 he).1
      simp at this
      obtain rfl : j = C.length := by omega
      simp at he
      subst he
      rfl
  · rw [List.length_append]
    simpa [idsC] using ho

theorem tmod9 (x : Int) : -8 ≤ x.tmod 9 ∧ x.tmod 9 ≤ 8 ∧ (0 ≤ x → 0 ≤ x.tmod 9) := by
  rw [Int.tmod_eq_emod]
  split <;> (try simp) <;> omega
theorem rest9 (g : Int) : 0 ≤ (wrap64 (g.tmod 9 + 9)).tmod 9 ∧ (wrap64 (g.tmod 9 + 9)).tmod 9 ≤ 8 := by
  have h1 := tmod9 g
  have e : wrap64 (g.tmod 9 + 9) = g.tmod 9 + 9 := by unfold wrap64; omega
  have h2 := tmod9 (wrap64 (g.tmod 9 + 9))
  rw [e] at h2 ⊢
  omega

set_option maxHeartbeats 8000000 in
set_option maxRecDepth 100000 in
theorem many_any {w : World} {v : Value} {nums : List Int} (hv : IsInts w v nums) (ask : Int) :
    Calls Try.prog 6 #[v, .int .i64 ask] w fun e w' => e = .returned (.bool true) ∧ Below w.heap.size w w' := by
  obtain ⟨pn, capn, rfl, hc⟩ := hv
  have HN := Lib.hid hc
  clear hc
  go_enter Try.func6, Try.ntmps6
  go_wp2_with fail
  go_at_call 7
  refine (awake_any w).mono ?_
  rintro e w1 ⟨rfl, hb1⟩
  have hst : ManyRel w nums.length (.pointer none) (.int .i64 (-1)) (.slice none 0 0) (.int .i64 0) w1 :=
    ⟨[], _, -1, rfl, rfl, ⟨IsRoll.nil w1, Nat.zero_le _, Nat.zero_le _, Asc.nil, fun e h => (by cases h), fun j e h => (by simp at h), by omega, by decide, World.ownsRow_nil _ _ _ _, hb1⟩⟩
  go_wp2_with fail
  go_loopw [6, 7, 8, 9] (fun vr vid vids vi wr => ManyRel w nums.length vr vid vids vi wr) (fun _ _ _ vi _ => 20 - (intOf vi).toNat)
  case atStart => exact hst
  case round =>
    clear hst
    obtain ⟨C, v, id, rfl, rfl, H⟩ := hrel
    have HH := Lib.hid H
    obtain ⟨pi, capi, rfl⟩ := own_slice H.ids
    have l20 := H.len20
    have lo := H.lo
    have hi := H.hi
    by_cases hlt : C.length < nums.length ∧ C.length < 20
    · obtain ⟨hlt1, hlt2⟩ := hlt
      obtain ⟨g, hg⟩ : ∃ g, nums[C.length]? = some g := ⟨_, List.getElem?_eq_getElem (by omega)⟩
      obtain ⟨b, off, rfl, hbl, hc0⟩ := HN.out _ _ hg
      have d0 := (H.bel.cell (p := ⟨b, off + C.length, none⟩) hbl).trans hc0
      have db : b < wr.heap.size := by have := H.bel.size; omega
      clear hg hc0 hbl H
      go_wp2_with fail
      have f0 := rest9 g
      have f1 : wrap64 (id + 1 + (wrap64 (g.tmod 9 + 9)).tmod 9) = id + 1 + (wrap64 (g.tmod 9 + 9)).tmod 9 := by
        generalize (wrap64 (g.tmod 9 + 9)).tmod 9 = m at f0
        unfold wrap64; omega
      rw [f1]
      generalize (wrap64 (g.tmod 9 + 9)).tmod 9 = m at f0 ⊢
      clear f1
      obtain ⟨id', eid⟩ : ∃ x, id + 1 + m = x := ⟨_, rfl⟩
      rw [eid]
      refine (kind_any _ _).mono ?_
      rintro e w2 ⟨bk, ck, rfl, htab, hb2⟩
      go_wp2_with fail
      go_at_call 11
      refine (add_yes (HH.out.roll.below hb2) id' (some ⟨bk, 0, none⟩) 1 ck (C.length : Nat) (by omega) htab ⟨by omega, fun e h => by have := HH.out.all e (List.mem_of_getElem? h); omega⟩).mono ?_
      rintro e w3 ⟨hb3, r3, v3, rfl, h3⟩
      have HB3 := Lib.hid (below_then hb2 hb3)
      clear htab hb2 hb3
      go_wp2_with fail
      go_at_call 12
      refine (kind_any _ _).mono ?_
      rintro e w4 ⟨bk4, ck4, rfl, -, hb4⟩
      go_wp2_with fail
      go_at_call 11
      refine (add_no (h3.below hb4) id' (some ⟨bk4, 0, none⟩) 1 ck4 (C.length : Nat) (by simp; omega) (.inr ⟨_, by rw [List.length_append, List.length_singleton, Nat.add_sub_cancel, List.getElem?_append_right (Nat.le_refl _), Nat.sub_self]; rfl, Int.le_refl _⟩)).mono ?_
      rintro e w5 ⟨rfl, hb5⟩
      have HB5 := Lib.hid (below_then HB3.out (below_then hb4 hb5))
      have H5 := Lib.hid (h3.below (below_then hb4 hb5))
      clear h3 hb4 hb5 HB3
      have hids := ownsRow_block HH.out.ids fun b hb => HB5.out.block b (HH.out.ids.lt b hb).2
      have hsz := HH.out.bel.size
      have hs5 := HB5.out.size
      obtain ⟨v6, w6, hrun, hown6, hk6, hb6⟩ := app_ids hids id' (by omega) (by omega) 43
      have HR := Lib.hid hrun
      have HS := Lib.hid (And.intro hown6 (And.intro hk6 hb6))
      clear hrun hown6 hk6 hb6 hids hsz hs5
      go_wp2_with (at_builtin; refine wpList_append_run rfl _ _ 43 rfl _ _ rfl rfl HR.out ?_)
      refine ⟨⟨_, v3, id', rfl, by simp, HH.out.step ⟨hlt1, hlt2⟩ ⟨by omega, by omega⟩ HB5.out H5.out HS.out.1 HS.out.2.1 HS.out.2.2⟩, ?_⟩
      simp only [intOf]
      omega
    · rename World => wa
      have hcl := H.asc
      have hlC := H.len
      have hall := H.all
      have hwin := H.win
      have hbel := H.bel
      have hcell : ∀ (i : Nat) (e : EN), C[i]? = some e → ∃ g, pi = some ⟨g, 0, none⟩ ∧ g < wa.heap.size ∧ wa.cell? ⟨g, i, none⟩ = some (.int .i64 e.id) := fun i e he => by
        have hi := (List.getElem?_eq_some_iff.1 he).1
        rcases H.ids.2 with ⟨_, h0⟩ | ⟨g, cap, cur, hv, _, hh, _⟩
        · omega
        · have hg : (Value.slice pi C.length capi).ownBlock = some g := by rw [hv]; rfl
          injection hv with e1 e2 e3
          subst e1; subst e3
          refine ⟨g, rfl, (H.ids.lt g hg).2, ?_⟩
          rw [H.ids.cellAt i (by omega), idsC, List.getElem?_map, he]
          rfl
      have HC := Lib.hid hcell
      have HW := Lib.hid (And.intro hcl (And.intro hall (And.intro hwin hbel)))
      have hroll := Lib.hid H.roll
      clear H hcell hcl hall hwin hbel
      go_wp2_with fail
      all_goals
        go_loopw [14, 15] (fun vt vi w2 => ∃ i : Nat, i ≤ C.length ∧ vi = .int .i64 (i : Int) ∧ vt = .bool ((C.take i).any fun e => e.id == ask) ∧ Below wa.heap.size wa w2) (fun _ vi _ => C.length - (intOf vi).toNat)
        case atStart => exact ⟨0, Nat.zero_le _, rfl, rfl, Below.refl _ _⟩
        case round =>
          obtain ⟨i, hi, rfl, rfl, hb2⟩ := hrel
          by_cases hlt2 : i < C.length
          · obtain ⟨e, he⟩ : ∃ e, C[i]? = some e := ⟨_, List.getElem?_eq_getElem hlt2⟩
            obtain ⟨g, rfl, hg, hce⟩ := HC.out i e he
            have d0 := (hb2.cell (p := ⟨g, i, none⟩) hg).trans hce
            have dg : g < wr.heap.size := by have := hb2.size; omega
            obtain ⟨tb, etb⟩ : ∃ tb, ((C.take i).any fun e => e.id == ask) = tb := ⟨_, rfl⟩
            rw [etb]
            have hw := HW.out.2.2.1 i e he
            have hto := (HW.out.2.1 e (List.mem_of_getElem? he)).2.2
            clear hce
            go_wp2_with fail
            go_at_call 15
            refine (find_any (hroll.out.below hb2) HW.out.1 (by omega) e.id).mono ?_
            rintro x w4 ⟨hb4, ht⟩
            obtain rfl : x = .returned (.tuple #[entV e, .bool true]) := by
              rcases ht with ⟨c, h1, h2, h3⟩ | ⟨_, h⟩
              · obtain ⟨k, hk⟩ := List.getElem?_of_mem h2
                have := HW.out.1.one hk he h3
                subst this
                rw [he] at hk
                cases hk
                exact h1
              · exact absurd rfl (h e (List.mem_of_getElem? he))
            clear ht
            have d4 := (hb4.cell (p := ⟨g, i, none⟩) dg).trans d0
            have dg4 : g < w4.heap.size := by have := hb4.size; omega
            have HB4 := Lib.hid (below_then hb2 hb4)
            clear d0 dg hb2 hb4
            unfold entV
            rw [hto, hw]
            go_wp2_with fail
            obtain ⟨w5, e5⟩ : ∃ w5, w4.alloc (Obj.cells #[Value.int IntKind.i64 e.id, Value.int IntKind.i64 (-1), Value.slice e.sp e.sn e.sc, Value.int IntKind.i64 (i : Int), Value.bool false] 48) = w5 := ⟨_, rfl⟩
            have hc5 : w5.heap[w4.heap.size]? = some (.cells #[Value.int IntKind.i64 e.id, Value.int IntKind.i64 (-1), Value.slice e.sp e.sn e.sc, Value.int IntKind.i64 (i : Int), Value.bool false] 48) := by rw [← e5]; exact blk_new _ _
            have hb5 : Below w4.heap.size w4 w5 := by rw [← e5]; exact below_alloc _ _
            have k0 := blk_cell hc5 0
            have k1 := blk_cell hc5 1
            have k3 := blk_cell hc5 3
            have d5 := (hb5.cell (p := ⟨g, i, none⟩) dg4).trans d4
            have dg5 : g < w5.heap.size := by have := hb5.size; omega
            have kl := blk_lt hc5
            have HB5 := Lib.hid (below_then HB4.out hb5)
            rw [e5]
            simp only [List.getElem?_toArray, List.getElem?_cons_zero, List.getElem?_cons_succ] at k0 k1 k3
            generalize w4.heap.size = b5 at k0 k1 k3 kl ⊢
            clear e5 hc5 hb5 d4 dg4 HB4 hto hw
            go_quiet (fail)
            have d6 : (w5.drewN nq).cell? ⟨g, i, none⟩ = some (.int .i64 e.id) := d5
            have dg6 : g < (w5.drewN nq).heap.size := dg5
            have HB6 := Lib.hid (below_then HB5.out (below_drewN w5 nq))
            generalize w5.drewN nq = w6 at d6 dg6 HB6 ⊢
            clear d5 dg5 k0 k1 k3 kl HB5
            have hnext : ((C.take (i + 1)).any fun e => e.id == ask) = (tb || (e.id == ask)) := by
              rw [List.take_add_one, he, List.any_append, etb]
              simp
            have etail : ∀ b : Bool, (tb || (e.id == ask)) = b → (∃ j : Nat, j ≤ C.length ∧ Value.int .i64 ((i : Int) + 1) = .int .i64 (j : Int) ∧ Value.bool b = .bool ((C.take j).any fun e => e.id == ask) ∧ Below wa.heap.size wa w6) ∧
                C.length - (intOf (Value.int .i64 ((i : Int) + 1))).toNat < C.length - (intOf (Value.int .i64 (i : Int))).toNat := fun b hb => by
              refine ⟨⟨i + 1, by omega, by simp, by rw [hnext, hb], HB6.out⟩, ?_⟩
              simp only [intOf]
              omega
            clear hnext etb HB6 he
            cases tb
            · go_wp2_with fail
              exact etail _ (Bool.false_or _)
            · go_wp2_with fail
              exact etail _ rfl
          · have htake : C.take i = C := List.take_of_length_le (by omega)
            have HB2 := Lib.hid (below_then HW.out.2.2.2 hb2)
            rw [htake]
            clear htake
            go_wp2_with fail
            refine (find_any (hroll.out.below hb2) HW.out.1 (by omega) ask).mono ?_
            rintro x w4 ⟨hb4, ht⟩
            obtain ⟨c, tb, rfl, htb⟩ : ∃ c tb, x = .returned (.tuple #[entV c, .bool tb]) ∧ (C.any fun e => e.id == ask) = tb := by
              rcases ht with ⟨c, h1, h2, h3⟩ | ⟨h1, h2⟩
              · exact ⟨c, true, h1, List.any_eq_true.2 ⟨c, h2, by simp [h3]⟩⟩
              · exact ⟨_, false, h1, List.any_eq_false.2 fun e he => by simpa using h2 e he⟩
            rw [htb]
            have hall : (liveC (id + 1) C).length = C.length := by
              unfold liveC
              rw [List.filter_eq_self.2 fun e he => ?_]
              have := HW.out.2.1 e he
              simp only [livesB, this.2.2, decide_true, Bool.true_or, Bool.and_true, decide_eq_true_eq]
              omega
            have hroll4 := Lib.hid (hroll.out.below (below_then hb2 hb4))
            have HB4 := Lib.hid (below_then HB2.out (hb4))
            clear ht htb hb2 hb4 HB2
            unfold entV
            cases tb
            all_goals
              go_wp2_with fail
              go_at_call 16
              refine (len_any (id + 1) (hroll4.out.below (below_alloc _ _)) (by omega)).mono ?_
              rintro x w6 ⟨rfl, hb6⟩
              rw [hall]
              have HB6 := Lib.hid (below_then HB4.out (below_then (below_alloc _ _) hb6))
              clear hb6
              go_wp2_with fail
              go_ret
              exact ⟨rfl, HB6.out⟩

end Go.Proofs.Ytlndkeofhcneaaa
