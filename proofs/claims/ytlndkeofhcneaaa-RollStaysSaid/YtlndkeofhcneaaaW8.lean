/-
  The walks of Len and of the law's live.
-/
import Derived.Test.YtlndkeofhcneaaaW7
namespace Go.Proofs.Ytlndkeofhcneaaa
open Go.RowKit Go.Shelf

attribute [local go_sem] Oper.semAt_some

theorem size_setCell' (w : World) (p : Addr) (v : Value) : (w.setCell p v).heap.size = w.heap.size := by simp [World.setCell]
theorem rollIn_of {w : World} {r : Option Addr} {v : Value} {C : List EN} (h : IsRoll w (.pointer r) v C) {K : Nat → Prop} (hK : ∀ k, k < w.heap.size → K k) : RollIn K r v := by
  refine ⟨fun a ha => ?_, fun g hg => hK g (h.ents.own.lt g hg).2⟩
  subst ha
  rcases h.ptr with ⟨h1, _⟩ | ⟨b, h1, h2⟩
  · cases h1
  · cases h1
    exact hK b (blk_lt h2)

set_option maxHeartbeats 2000000 in
set_option maxRecDepth 100000 in
theorem len_n (r : Option Addr) (at_ : Int) {v : Value} {C : List EN} (w : World) (h : IsRoll w (.pointer r) v C) (hl : C.length ≤ 1000) :
    CallsIn Fence.wide 20 Try.prog 16 #[.pointer r, .int .i64 at_] w fun e w' => e = .returned (.int .i64 ((liveC at_ C).length : Nat)) ∧ Below w.heap.size w w' := by
  have h16 := wide_fn 16
  have h26 := wide_fn 26
  have h30 := wide_fn 30
  have h1 : 1 ≤ 20 := by omega
  refine callsIn_of_wp_marks Try.func16 rfl h16 ?_ rfl
  simp only [Try.ntmps16, List.size_toArray, List.length_cons, List.length_nil, Nat.reduceAdd, Nat.reduceSub, Array.replicate_succ, Array.replicate_zero, List.push_toArray, List.append_toArray, List.nil_append, List.cons_append]
  have HX := Lib.hid h
  clear h
  gi_wp2_with (gi_at_call 26; refine (Live_in _ r at_ _).mono ?_; rintro e w1 ⟨rfl, rfl⟩)
  have bN := ((Boxed.new w 3 (.int .i64 0)).alloc (.cells #[.pointer r] 24)).alloc (.cells #[.int .i64 at_] 3)
  have bR := (Boxed.new (w.alloc (.cells #[.int .i64 0] 3)) 24 (.pointer r)).alloc (.cells #[.int .i64 at_] 3)
  have bA := Boxed.new ((w.alloc (.cells #[.int .i64 0] 3)).alloc (.cells #[.pointer r] 24)) 3 (.int .i64 at_)
  simp only [World.size_alloc] at bR bA
  have hB0 : Below w.heap.size w (((w.alloc (.cells #[.int .i64 0] 3)).alloc (.cells #[.pointer r] 24)).alloc (.cells #[.int .i64 at_] 3)) := (((Below.refl _ w).alloc (Nat.le_refl _) _).alloc (by simp) _).alloc (by simp; omega) _
  have hsz : (((w.alloc (.cells #[.int .i64 0] 3)).alloc (.cells #[.pointer r] 24)).alloc (.cells #[.int .i64 at_] 3)).heap.size = w.heap.size + 3 := by simp
  have hR0 := HX.out.below hB0
  have hKin : RollIn (fun k => k < w.heap.size ∨ k = w.heap.size + 1 ∨ k = w.heap.size + 1 + 1) r v := rollIn_of HX.out fun k hk => .inl hk
  obtain ⟨W0, hW0⟩ : ∃ W0, ((w.alloc (.cells #[.int .i64 0] 3)).alloc (.cells #[.pointer r] 24)).alloc (.cells #[.int .i64 at_] 3) = W0 := ⟨_, rfl⟩
  rw [hW0] at bN bR bA hB0 hsz hR0 ⊢
  clear hW0
  have hKlt : ∀ k, (k < w.heap.size ∨ k = w.heap.size + 1 ∨ k = w.heap.size + 1 + 1) → k < W0.heap.size := fun k hk => by omega
  refine wpIn_range_N rfl h1 (gf := 30) (lb := #[.pointer (some ⟨w.heap.size + 1, 0, none⟩), .pointer (some ⟨w.heap.size + 1 + 1, 0, none⟩)]) rfl h30 (enters_of Try.func30 (by kernel_rfl) rfl)
    (live30_n 19 (by omega) _ _ r at_ W0 bR bA (.inr (.inr rfl)) hR0 hKin hl)
    (fun h k => h.trans k) (held_b hKlt) (Below.refl _ _) (fun _ => rfl)
    (fun pre W => Boxed W w.heap.size 3 (.int .i64 (pre.length : Nat)) ∧ Below w.heap.size w W)
    (OwnFrom.and (Own.from (boxed_own _ _ _) _) (ownFrom_below (Nat.le_refl _) (by omega)))
    ⟨bN, hB0⟩
    (fun x a' W => a' = { tmps := #[.pointer r, .int .i64 at_, undef, undef, .int .i64 0, .pointer (some ⟨w.heap.size, 0, none⟩), .pointer r, .int .i64 at_,
      .func (.func 30) #[] #[.pointer (some ⟨w.heap.size + 1, 0, none⟩), .pointer (some ⟨w.heap.size + 1 + 1, 0, none⟩)], entV x, undef, undef, undef], defers := [] })
    (fun x a' => fun s A B row hs hg hr => hs)
    ?assign ?body ?done
  case assign =>
    rintro l pre x W K hi hK
    gi_wp2
    exact hK _ _ (KeepsFrom.refl _ _) (Held.refl _ _) hi (by simp)
  case body =>
    rintro l pre x a' W ⟨hv, hb⟩ rfl hlt
    have cv := hv.cell
    have lv := hv.lt
    have fv := hv.frozen
    have hll := liveC_le at_ C
    have hpl : (pre.length : Int) ≤ 1000 := by omega
    gi_wp2
    refine ⟨(KeepsOthers.setCell _ _ _).from _, ⟨by rw [size_setCell']; exact Nat.le_refl _, fun k hk hl' => Below.heap_setCell _ _ _ k (by show k ≠ w.heap.size; omega)⟩, ?_, ?_⟩
    · have h2 := hv.set (.int .i64 ((pre.length : Int) + 1))
      simpa using h2
    · exact below_set (p := ⟨w.heap.size, 0, none⟩) hb (Nat.le_refl _) _
  case done =>
    rintro D ys W hD rfl ⟨hv, hb⟩ hK
    have cv := hv.cell
    have lv := hv.lt
    gi_wp2
    refine ⟨by simp, .inl ⟨_, _, rfl, run_takeDeferred hK, ?_⟩⟩
    exact ⟨.int .i64 ((liveC at_ C).length : Nat), results_tmp (t := 4) rfl _ _ _, rfl, hb.trans (belowK_b (w := w) (Nat.le_refl _) W D _ _ (by omega) hK rfl rfl)⟩

theorem len_any {r v : Value} (at_ : Int) {C : List EN} {w : World} (h : IsRoll w r v C) (hl : C.length ≤ 1000) :
    Calls Try.prog 16 #[r, .int .i64 at_] w fun e w' => e = .returned (.int .i64 ((liveC at_ C).length : Nat)) ∧ Below w.heap.size w w' := by
  obtain ⟨p, rfl⟩ : ∃ p, r = .pointer p := by
    rcases h.ptr with ⟨h, _⟩ | ⟨b, h, _⟩
    · exact ⟨_, h⟩
    · exact ⟨_, h⟩
  exact callsIn_wide.1 (len_n p at_ w h hl)

end Go.Proofs.Ytlndkeofhcneaaa
