/-
  The walks of Live and of its iterator.
-/
import Derived.Test.YtlndkeofhcneaaaW6
import Derived.Test.YtlndkeofhcneaaaRange
namespace Go.Proofs.Ytlndkeofhcneaaa
open Go.RowKit Go.Shelf

attribute [local go_sem] Oper.semAt_some

/-- Those that live at a stamp. -/
def livesB (at_ : Int) (e : EN) : Bool := decide (e.id < at_) && (decide (e.to = -1) || decide (at_ ≤ e.to))
def liveC (at_ : Int) (C : List EN) : List EN := C.filter (livesB at_)
theorem liveC_take {at_ : Int} {C : List EN} {i : Nat} {e : EN} (h : C[i]? = some e) : liveC at_ (C.take (i + 1)) = liveC at_ (C.take i) ++ (if livesB at_ e then [e] else []) := by
  have e1 : C.take (i + 1) = C.take i ++ [e] := by rw [List.take_add_one, h]; rfl
  rw [e1]
  unfold liveC
  rw [List.filter_append]
  cases hb : livesB at_ e <;> simp [hb]
theorem liveC_le (at_ : Int) (C : List EN) : (liveC at_ C).length ≤ C.length := List.length_filter_le _ _
theorem liveC_take_lt {at_ : Int} {C : List EN} {i : Nat} {e : EN} (h : C[i]? = some e) (hl : livesB at_ e = true) : (liveC at_ (C.take i)).length < (liveC at_ C).length := by
  have h1 := liveC_take (at_ := at_) h
  rw [hl, if_pos rfl] at h1
  have h2 : (liveC at_ (C.take (i + 1))).length ≤ (liveC at_ C).length := ((List.take_sublist (i + 1) C).filter _).length_le
  rw [h1] at h2
  simp at h2
  omega

set_option maxHeartbeats 1000000 in
theorem Live_in (n : Nat) (r : Option Addr) (at_ : Int) (w : World) :
    CallsIn Fence.wide n Try.prog 26 #[.pointer r, .int .i64 at_] w fun e w' => e = .returned (.func (.func 30) #[] #[.pointer (some ⟨w.heap.size, 0, none⟩), .pointer (some ⟨w.heap.size + 1, 0, none⟩)]) ∧ (w.alloc (.cells #[.pointer r] 24)).alloc (.cells #[.int .i64 at_] 3) = w' := by
  refine callsIn_of_wp Try.func26 rfl trivial ?_ rfl
  simp only [Try.ntmps26, List.size_toArray, List.length_cons, List.length_nil, Nat.reduceAdd, Nat.reduceSub, Array.replicate_succ, Array.replicate_zero, List.push_toArray, List.append_toArray, List.nil_append, List.cons_append]
  gi_wp2
  go_ret
  exact ⟨rfl, rfl⟩

/-- The blocks of a roll. -/
def RollIn (K : Nat → Prop) (r : Option Addr) (v : Value) : Prop := (∀ a, r = some a → K a.block) ∧ ∀ g, v.ownBlock = some g → K g
theorem IsRoll.held {K : Nat → Prop} {W W' : World} {r : Option Addr} {v : Value} {C : List EN} (h : IsRoll W (.pointer r) v C) (hK : RollIn K r v) (k : Held K W W') : ((.pointer r : Value) = .pointer none ∧ v = .slice none 0 0 ∧ C = []) ∨ (∃ b, r = some ⟨b, 0, none⟩ ∧ W'.heap[b]? = some (.cells #[v] 58)) := by
  rcases h.ptr with h | ⟨b, h1, h2⟩
  · exact .inl h
  · injection h1 with h1
    exact .inr ⟨b, h1, (k.block b (hK.1 _ h1) (blk_lt h2)).trans h2⟩

set_option maxHeartbeats 2000000 in
set_option maxRecDepth 100000 in
theorem live30_n (n : Nat) (hn : 6 ≤ n) (Br Ba : Nat) (r : Option Addr) (at_ : Int) {v : Value} {C : List EN} {K : Nat → Prop} (w : World) (hBr : Boxed w Br 24 (.pointer r)) (hBa : Boxed w Ba 3 (.int .i64 at_)) (hKa : K Ba)
    (h : IsRoll w (.pointer r) v C) (hK : RollIn K r v) (hl : C.length ≤ 1000) :
    SeqN Fence.wide n Try.prog 30 #[.pointer (some ⟨Br, 0, none⟩), .pointer (some ⟨Ba, 0, none⟩)] (fun e : EN => #[entV e]) (Held K) (fun es => es = liveC at_ C) (liveC at_ C).length w := by
  intro l J W hW hJ hY h0
  have bR : Boxed W Br 24 (.pointer r) := (hW.block Br hBr.lt).trans hBr
  have bA : Boxed W Ba 3 (.int .i64 at_) := (hW.block Ba hBa.lt).trans hBa
  have hW' : IsRoll W (.pointer r) v C := h.below hW
  have cR := bR.cell
  have lR := bR.lt
  have h30 := wide_fn 30
  have h21 := wide_fn 21
  have h1 : 1 ≤ n := by omega
  have h2 : 1 ≤ n - 1 := by omega
  have HA := Lib.hid (And.intro bA hKa)
  clear bR bA h hBr hBa
  rcases hW'.ents.cells with ⟨rfl, rfl⟩ | ⟨g, cap, rfl, hg, hcap, hfr, hcell⟩
  · refine callsIn_of_wp Try.func30 rfl h30 ?_ rfl
    simp only [Try.ntmps30, List.size_toArray, List.length_cons, List.length_nil, Nat.reduceAdd, Nat.reduceSub, Array.replicate_succ, Array.replicate_zero, List.push_toArray, List.append_toArray, List.nil_append, List.cons_append]
    gi_wp2_with (gi_at_call 21; refine (callsIn_wide.2 (all_any hW')).mono ?_; rintro e w1 ⟨rfl, hw1⟩; rw [hw1]; clear hw1 w1)
    gi_loopw [9] (fun p wr => p = .int .i64 0 ∧ wr = W) (fun _ _ => 0)
    case atStart => exact ⟨rfl, rfl⟩
    case round =>
      obtain ⟨rfl, rfl⟩ := hrel
      gi_wp2
      go_end0
      exact ⟨⟨_, rfl⟩, [], rfl, h0⟩
  · have HC := Lib.hid hcell
    have hKg : K g := hK.2 g rfl
    clear hcell hfr
    refine callsIn_of_wp Try.func30 rfl h30 ?_ rfl
    simp only [Try.ntmps30, List.size_toArray, List.length_cons, List.length_nil, Nat.reduceAdd, Nat.reduceSub, Array.replicate_succ, Array.replicate_zero, List.push_toArray, List.append_toArray, List.nil_append, List.cons_append]
    gi_wp2_with (gi_at_call 21; refine (callsIn_wide.2 (all_any hW')).mono ?_; rintro e w1 ⟨rfl, hw1⟩; rw [hw1]; clear hw1 w1)
    gi_loopw [9] (fun p wr => ∃ i : Nat, i ≤ C.length ∧ p = .int .i64 (i : Int) ∧ J (liveC at_ (C.take i)) wr ∧ Held K W wr) (fun p _ => C.length - (intOf p).toNat)
    case atStart => exact ⟨0, Nat.zero_le _, rfl, by simpa [liveC] using h0, Held.refl _ _⟩
    case round =>
      obtain ⟨i, hi, rfl, hJi, hH⟩ := hrel
      have hgr : g < wr.heap.size := Nat.lt_of_lt_of_le hg hH.size
      by_cases hlt : i < C.length
      · obtain ⟨e, he⟩ : ∃ e, C[i]? = some e := ⟨_, List.getElem?_eq_getElem hlt⟩
        obtain ⟨d0, d1, d2, d3, d4⟩ := HC.out _ _ he
        have c0 := hH.cell d0 hKg
        have c1 := hH.cell d1 hKg
        have c2 := hH.cell d2 hKg
        have c3 := hH.cell d3 hKg
        have c4 := hH.cell d4 hKg
        have cA := hH.cell HA.out.1.cell HA.out.2
        have lA := World.block_lt_of_cell? wr _ cA
        have HE := Lib.hid he
        clear d0 d1 d2 d3 d4 he
        by_cases h3 : e.id < at_
        · by_cases h4 : e.to = -1
          · have h4b : (e.to == -1) = true := by simp [h4]
            have hlv : livesB at_ e = true := by simp [livesB, h3, h4]
            have hlen := liveC_take_lt HE.out hlv
            have htk := liveC_take (at_ := at_) HE.out
            rw [hlv, if_pos rfl] at htk
            obtain ⟨fn, tmps, assign, body, hy, hR⟩ := hY _ e (wr.alloc (.cells #[.int .i64 e.id, .int .i64 e.to, .slice e.sp e.sn e.sc, .int .i64 e.win, .bool false] 48)) (hJ.alloc _ hJi) hlen
            unfold entV at hy
            have HT := Lib.hid (And.intro htk (And.intro hJi hH))
            clear htk hlen hlv
            clear h4
            gi_wp2
            refine hR.mono ?_
            rintro e' W3 ⟨rfl, hJ3, hk3, _⟩
            gi_wp2
            refine ⟨⟨i + 1, by omega, by simp, by rw [HT.out.1]; exact hJ3, (HT.out.2.2.alloc _).trans hk3⟩, ?_⟩
            simp only [intOf]; omega
          · have h4b : (e.to == -1) = false := by simp [h4]
            by_cases h5 : at_ ≤ e.to
            · have hlv : livesB at_ e = true := by simp [livesB, h3, h4, h5]
              have hlen := liveC_take_lt HE.out hlv
              have htk := liveC_take (at_ := at_) HE.out
              rw [hlv, if_pos rfl] at htk
              obtain ⟨fn, tmps, assign, body, hy, hR⟩ := hY _ e (wr.alloc (.cells #[.int .i64 e.id, .int .i64 e.to, .slice e.sp e.sn e.sc, .int .i64 e.win, .bool false] 48)) (hJ.alloc _ hJi) hlen
              unfold entV at hy
              have HT := Lib.hid (And.intro htk (And.intro hJi hH))
              clear htk hlen hlv
              gi_wp2
              refine hR.mono ?_
              rintro e' W3 ⟨rfl, hJ3, hk3, _⟩
              gi_wp2
              refine ⟨⟨i + 1, by omega, by simp, by rw [HT.out.1]; exact hJ3, (HT.out.2.2.alloc _).trans hk3⟩, ?_⟩
              simp only [intOf]; omega
            · have hlv : livesB at_ e = false := by simp [livesB]; omega
              have htk := liveC_take (at_ := at_) HE.out
              rw [hlv] at htk
              simp only [Bool.false_eq_true, if_false, List.append_nil] at htk
              have hJ2 := hJ.alloc (.cells #[.int .i64 e.id, .int .i64 e.to, .slice e.sp e.sn e.sc, .int .i64 e.win, .bool false] 48) hJi
              have HT := Lib.hid (And.intro htk (And.intro hJ2 hH))
              clear htk hlv hJ2
              gi_wp2
              refine ⟨fun _ h => (by cases h), ?_⟩
              gi_wp2
              refine ⟨⟨i + 1, by omega, by simp, by rw [HT.out.1]; exact HT.out.2.1, HT.out.2.2.alloc _⟩, ?_⟩
              simp only [intOf]; omega
        · have hlv : livesB at_ e = false := by simp [livesB]; omega
          have htk := liveC_take (at_ := at_) HE.out
          rw [hlv] at htk
          simp only [Bool.false_eq_true, if_false, List.append_nil] at htk
          have hJ2 := hJ.alloc (.cells #[.int .i64 e.id, .int .i64 e.to, .slice e.sp e.sn e.sc, .int .i64 e.win, .bool false] 48) hJi
          have HT := Lib.hid (And.intro htk (And.intro hJ2 hH))
          clear htk hlv hJ2
          gi_wp2
          refine ⟨fun _ h => (by cases h), ?_⟩
          gi_wp2
          refine ⟨⟨i + 1, by omega, by simp, by rw [HT.out.1]; exact HT.out.2.1, HT.out.2.2.alloc _⟩, ?_⟩
          simp only [intOf]; omega
      · have hie : i = C.length := by omega
        subst hie
        rw [List.take_length] at hJi
        gi_wp2
        go_end0
        exact ⟨⟨_, rfl⟩, _, rfl, hJi⟩

end Go.Proofs.Ytlndkeofhcneaaa
