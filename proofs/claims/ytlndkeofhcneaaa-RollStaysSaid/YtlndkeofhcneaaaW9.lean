/-
  The walk of the law's live.
-/
import Derived.Test.YtlndkeofhcneaaaW8
namespace Go.Proofs.Ytlndkeofhcneaaa
open Go.RowKit Go.Shelf

attribute [local go_sem] Oper.semAt_some

theorem under71 : Try.prog.underlying 71 = some (.func #[78] #[] false) := by kernel_rfl
theorem run_eq_nilfunc (f : Fn) (xs ys : Array Value) (W : World) : (binOp .eql 71 (.func f xs ys) .nilFunc).run Try.prog W = .ok (.bool false) W := by
  have e : (Op.equal 71 (.func f xs ys) .nilFunc).run Try.prog W = .ok false W := by
    unfold Op.equal Op.maxDepth
    unfold Op.equalIn
    simp only [Sem.run_bind, run_underlying under71, Result.andThen, Sem.run_pure]
  unfold binOp
  simp only [Sem.run_bind, e, Result.andThen, Sem.run_pure]

def actL (r : Option Addr) (at_ : Int) (h Bx : Nat) (x : EN) : Act := { tmps := #[.pointer r, .int .i64 at_, undef, undef, .slice none 0 0, .pointer (some ⟨h, 0, none⟩),
      .func (.func 30) #[] #[.pointer (some ⟨h + 1, 0, none⟩), .pointer (some ⟨h + 1 + 1, 0, none⟩)], .pointer (some ⟨Bx, 0, none⟩), .pointer r, .int .i64 at_,
      .func (.func 30) #[] #[.pointer (some ⟨h + 1, 0, none⟩), .pointer (some ⟨h + 1 + 1, 0, none⟩)], .func (.func 30) #[] #[.pointer (some ⟨h + 1, 0, none⟩), .pointer (some ⟨h + 1 + 1, 0, none⟩)], .bool false,
      .func (.func 30) #[] #[.pointer (some ⟨h + 1, 0, none⟩), .pointer (some ⟨h + 1 + 1, 0, none⟩)], entV x, undef, undef, undef, undef, undef], defers := [] }

set_option maxHeartbeats 2000000 in
set_option maxRecDepth 100000 in
theorem live_n (r : Option Addr) (at_ : Int) {v : Value} {C : List EN} (w : World) (h : IsRoll w (.pointer r) v C) (hl : C.length ≤ 1000) :
    CallsIn Fence.wide 20 Try.prog 17 #[.pointer r, .int .i64 at_] w fun e w' => ∃ vo, e = .returned vo ∧ w'.ownsRow w.heap.size 48 5 vo (liveC at_ C).length (env (liveC at_ C)) ∧ Below w.heap.size w w' := by
  have h17 := wide_fn 17
  have h26 := wide_fn 26
  have h30 := wide_fn 30
  have h1 : 1 ≤ 20 := by omega
  obtain ⟨i0, hi, hz0, hz1, hz2⟩ := info_parts info48
  refine callsIn_of_wp_marks Try.func17 rfl h17 ?_ rfl
  simp only [Try.ntmps17, List.size_toArray, List.length_cons, List.length_nil, Nat.reduceAdd, Nat.reduceSub, Array.replicate_succ, Array.replicate_zero, List.push_toArray, List.append_toArray, List.nil_append, List.cons_append]
  have HX := Lib.hid h
  clear h
  have hEq := fun (fs : Array Value) (W : World) => run_eq_nilfunc (.func 30) #[] fs W
  gi_wp2_with (gi_at_call 26; refine (Live_in _ r at_ _).mono ?_; rintro e w1 ⟨rfl, rfl⟩)
  have bN := ((Boxed.new w 25 (.slice none 0 0)).alloc (.cells #[.pointer r] 24)).alloc (.cells #[.int .i64 at_] 3)
  have bR := (Boxed.new (w.alloc (.cells #[.slice none 0 0] 25)) 24 (.pointer r)).alloc (.cells #[.int .i64 at_] 3)
  have bA := Boxed.new ((w.alloc (.cells #[.slice none 0 0] 25)).alloc (.cells #[.pointer r] 24)) 3 (.int .i64 at_)
  simp only [World.size_alloc] at bR bA
  have hB0 : Below w.heap.size w (((w.alloc (.cells #[.slice none 0 0] 25)).alloc (.cells #[.pointer r] 24)).alloc (.cells #[.int .i64 at_] 3)) := (((Below.refl _ w).alloc (Nat.le_refl _) _).alloc (by simp) _).alloc (by simp; omega) _
  have hsz : (((w.alloc (.cells #[.slice none 0 0] 25)).alloc (.cells #[.pointer r] 24)).alloc (.cells #[.int .i64 at_] 3)).heap.size = w.heap.size + 3 := by simp
  have hR0 := HX.out.below hB0
  have hKin : RollIn (fun k => k < w.heap.size ∨ k = w.heap.size + 1 ∨ k = w.heap.size + 1 + 1) r v := rollIn_of HX.out fun k hk => .inl hk
  obtain ⟨W0, hW0⟩ : ∃ W0, ((w.alloc (.cells #[.slice none 0 0] 25)).alloc (.cells #[.pointer r] 24)).alloc (.cells #[.int .i64 at_] 3) = W0 := ⟨_, rfl⟩
  rw [hW0] at bN bR bA hB0 hsz hR0 ⊢
  clear hW0
  clear hEq
  have hKlt : ∀ k, (k < w.heap.size ∨ k = w.heap.size + 1 ∨ k = w.heap.size + 1 + 1) → k < W0.heap.size := fun k hk => by omega
  refine wpIn_range_N rfl h1 (gf := 30) (lb := #[.pointer (some ⟨w.heap.size + 1, 0, none⟩), .pointer (some ⟨w.heap.size + 1 + 1, 0, none⟩)]) rfl h30 (enters_of Try.func30 (by kernel_rfl) rfl)
    (live30_n 19 (by omega) _ _ r at_ W0 bR bA (.inr (.inr rfl)) hR0 hKin hl)
    (fun h k => h.trans k) (held_b hKlt) (Below.refl _ _) (fun _ => rfl)
    (fun pre W => ((∃ v, Boxed W w.heap.size 25 v ∧ W.ownsRow w.heap.size 48 5 v pre.length (env pre) ∧ True) ∧ Boxed W (w.heap.size + 1) 24 (.pointer r) ∧ Boxed W (w.heap.size + 1 + 1) 3 (.int .i64 at_)) ∧ Below w.heap.size w W)
    (OwnFrom.and (OwnFrom.and (Own.from (holdsRow_own w.heap.size w.heap.size 25 48 5 (fun pre : List EN => pre.length) (fun pre => env pre) (fun _ _ => True)) _) (OwnFrom.and (Own.from (boxed_own _ _ _) _) (Own.from (boxed_own _ _ _) _))) (ownFrom_below (Nat.le_refl _) (by omega)))
    ⟨⟨⟨_, bN, World.ownsRow_nil _ _ _ _, trivial⟩, bR, bA⟩, hB0⟩
    (fun x a' W => ∃ Bx, Bx < W.heap.size ∧ W.heap[Bx]? = some (.cells #[.int .i64 x.id, .int .i64 x.to, .slice x.sp x.sn x.sc, .int .i64 x.win, .bool false] 48) ∧ a' = actL r at_ w.heap.size Bx x)
    (fun x a' => fun s A B row hs hg hr => by
      obtain ⟨Bx, h1, h2, h3⟩ := hs
      exact ⟨Bx, Nat.lt_of_lt_of_le h1 hg.size, (hg.block Bx h1 (fun e => by obtain ⟨_, o, ho, hc⟩ := hr _ e.symm; rw [h2] at ho; cases ho; cases hc)).trans h2, h3⟩)
    ?assign ?body ?done
  case assign =>
    rintro l pre x W K ⟨⟨⟨v, hv, hr, _⟩, hbr, hba⟩, hb⟩ hK
    unfold entV
    gi_wp2
    exact hK _ _ ((KeepsOthers.alloc _ _).from _) ((Held.refl _ _).alloc _) ⟨⟨⟨v, hv.alloc _, hr.alloc _, trivial⟩, hbr.alloc _, hba.alloc _⟩, hb.alloc hb.size _⟩ ⟨W.heap.size, by simp, blk_new W _, rfl⟩
  case body =>
    rintro l pre x a' W ⟨⟨⟨v, hv, hr, _⟩, hbr, hba⟩, hb⟩ ⟨Bx, hBx, hx, rfl⟩ hlt
    have cv := hv.cell
    have lv := hv.lt
    have cx0 := blk_cell hx 0
    have cx1 := blk_cell hx 1
    have cx2 := blk_cell hx 2
    have cx3 := blk_cell hx 3
    have cx4 := blk_cell hx 4
    simp only [List.getElem?_toArray, List.getElem?_cons_zero, List.getElem?_cons_succ] at cx0 cx1 cx2 cx3 cx4
    have hll := liveC_le at_ C
    have hpl : pre.length + 1 ≤ 1001 := by omega
    have hsb := hb.size
    have HG := Lib.hid (And.intro hbr hba)
    clear hx hll hbr hba
    unfold actL entV
    gi_wp2_with (gi_at_builtin; refine wpListIn_append_own _ rfl _ _ 25 rfl w.heap.size 48 i0 _ 5 56 Try.underlying25 hi hz0 hz1 hz2 rfl (by decide) _ _ _ rfl (hr.alloc _) ⟨W.heap.size, 0, none⟩ 1 1 (ev x) rfl rfl ?c1 ?c2 ?c3 ?c4 ?c5 ?_)
    case c1 =>
      intro j u hu
      rw [addr_add, blk_cell (blk_new W _) j]
      simpa [ev] using hu
    case c2 => exact ev_one x
    case c3 => unfold maxLen; omega
    case c4 => omega
    case c5 => rw [World.size_alloc]; omega
    intro v' w3 hown' hgrow _
    obtain ⟨g', cap', rfl⟩ := ownsRow_succ hown'
    obtain ⟨hv1, hv2, hr2, hk2, hb2⟩ := hv.appended (by decide) hr hb.size (Nat.le_refl _) hown' hgrow
    have hc1 := hv1.cell
    have hf1 := hv1.frozen
    have hR3 : Boxed (w3.setCell ⟨w.heap.size, 0, none⟩ (.slice (some ⟨g', 0, none⟩) (pre.length + 1) cap')) (w.heap.size + 1) 24 (.pointer r) :=
      (((HG.out.1.alloc _).kept hgrow (HG.out.1.not_row (by decide) hr))).other (by omega) _
    have hA3 : Boxed (w3.setCell ⟨w.heap.size, 0, none⟩ (.slice (some ⟨g', 0, none⟩) (pre.length + 1) cap')) (w.heap.size + 1 + 1) 3 (.int .i64 at_) :=
      (((HG.out.2.alloc _).kept hgrow (HG.out.2.not_row (by decide) hr))).other (by omega) _
    have hheld : Held (fun k => k < w.heap.size ∨ k = w.heap.size + 1 ∨ k = w.heap.size + 1 + 1) W (w3.setCell ⟨w.heap.size, 0, none⟩ (.slice (some ⟨g', 0, none⟩) (pre.length + 1) cap')) := by
      refine ⟨hb2.size, fun k hk hlk => ?_⟩
      rcases hk with hk | rfl | rfl
      · exact hb2.block k hk
      · exact hR3.trans HG.out.1.symm
      · exact hA3.trans HG.out.2.symm
    have HZ := Lib.hid (And.intro hheld (And.intro hR3 hA3))
    clear hheld hR3 hA3
    gi_wp2
    refine ⟨hk2.from _, HZ.out.1, ⟨⟨_, hv2, ?_⟩, HZ.out.2⟩, hb.trans hb2⟩
    rw [env_snoc]
    exact hr2
  case done =>
    rintro D ys W hD rfl ⟨⟨⟨v, hv, hr, _⟩, _, _⟩, hb⟩ hK
    have cv := hv.cell
    have lv := hv.lt
    gi_wp2
    refine ⟨by simp, .inl ⟨_, _, rfl, run_takeDeferred hK, ?_⟩⟩
    exact ⟨v, results_tmp (t := 4) rfl _ _ _, v, rfl, ownsRow_putObj hr _ hK rfl, hb.trans (belowK_b (w := w) (Nat.le_refl _) W D _ _ (by omega) hK rfl rfl)⟩

theorem ownsRow_zero {w : World} {base : Nat} {e : TypeId} {size : Nat} {v : Value} {n : Nat} {xs : List Value} (h : w.ownsRow base e size v n xs) : w.ownsRow 0 e size v n xs := by
  obtain ⟨h1, h2 | ⟨g, cap, cur, hv, hg, r⟩⟩ := h
  · exact ⟨h1, .inl h2⟩
  · exact ⟨h1, .inr ⟨g, cap, cur, hv, Nat.zero_le _, r⟩⟩

theorem live_any {r v : Value} (at_ : Int) {C : List EN} {w : World} (h : IsRoll w r v C) (hl : C.length ≤ 1000) :
    Calls Try.prog 17 #[r, .int .i64 at_] w fun e w' => ∃ vo, e = .returned vo ∧ IsEnts w' vo (liveC at_ C) ∧ Below w.heap.size w w' := by
  obtain ⟨p, rfl⟩ : ∃ p, r = .pointer p := by
    rcases h.ptr with ⟨h, _⟩ | ⟨b, h, _⟩
    · exact ⟨_, h⟩
    · exact ⟨_, h⟩
  refine (callsIn_wide.1 (live_n p at_ w h hl)).mono ?_
  rintro e w' ⟨vo, rfl, hown, hb⟩
  exact ⟨vo, rfl, ⟨ownsRow_zero hown, fun x hx => (h.ents.tab x (List.mem_filter.1 hx).1).below hb⟩, hb⟩

end Go.Proofs.Ytlndkeofhcneaaa
