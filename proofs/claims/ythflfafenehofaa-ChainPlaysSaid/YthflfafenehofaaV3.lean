/-
  Drop, Sets and what is there, of a row of nodes each behind the last one.
-/
import Derived.Test.YthflfafenehofaaV2
namespace Go.Proofs.Ythflfafenehofaa
open Go.RowKit Go.Shelf

theorem cnt_map (L : List CN) : cnt (L.map some) = L.length := by
  unfold cnt
  induction L with
  | nil => rfl
  | cons a L ih => simpa using ih

/-- The row, of which the first j were let go once. -/
structure RowJ (P : List (Int × Int)) (L : List CN) (cell : Nat) (j : Nat) : Prop where
  at_ : ∀ (i : Nat) (n : CN), L[i]? = some n → n.prev = (i : Int) - 1 ∧ n.slot = i ∧ 0 ≤ n.cell ∧ n.cell ≤ cell ∧ n.count = if i < j ∨ i + 1 = L.length then 1 else 2
  last : ∀ n : CN, L[L.length - 1]? = some n → n.cell = cell
  prs_ : prs L = P

theorem RowOf.rowJ {nums : List Int} {L : List CN} {cell : Nat} (h : RowOf nums L cell) : RowJ (prs L) L cell 0 := by
  refine ⟨fun i n hi => ?_, h.last, rfl⟩
  obtain ⟨h1, h2, h3, h4, h5, h6⟩ := h.at_ i n hi
  refine ⟨h1, h2, h4, h5, ?_⟩
  by_cases e : i + 1 = L.length
  · rw [if_pos e] at h6; rw [if_pos (.inr e)]; exact h6
  · rw [if_neg e] at h6; rw [if_neg (by omega)]; exact h6

theorem drop_row {X : Nat → Prop} {W : World} {c mb : Nat} {P : List (Int × Int)} {L : List CN} {cell j : Nat} (h : IsChain X W c mb (L.map some)) (hr : RowJ P L cell j) (hl : L.length ≤ 1000) (hj : j + 1 < L.length) :
    Calls Try.prog 11 #[.pointer (some ⟨c, 0, none⟩), .int .i64 (j : Int)] W fun e w' => ∃ p cap, e = .returned (.tuple #[.slice p 0 cap, .bool true]) ∧
      ∃ L', IsChain X w' c mb (L'.map some) ∧ RowJ P L' cell (j + 1) ∧ L'.length = L.length ∧ Keep X W w' := by
  obtain ⟨n, hn⟩ : ∃ n, L[j]? = some n := ⟨_, List.getElem?_eq_getElem (by omega)⟩
  have hk : cget (L.map some) (j : Int) = some n := by rw [cget_map_nat]; exact hn
  obtain ⟨_, _, _, _, hc⟩ := hr.at_ j n hn
  rw [if_neg (by omega)] at hc
  refine (drop_yes h (j : Int) hk (fun k m hm => ?_) (by rw [cnt_map]; omega)).mono ?_
  · rw [cget_map] at hm
    split at hm
    · obtain ⟨_, _, _, _, hc'⟩ := hr.at_ _ m hm
      rw [hc']
      split <;> omega
    · cases hm
  · rintro e w' ⟨vo, out, M', rfl, hd, hown, hch, hkeep⟩
    obtain ⟨rfl, rfl⟩ := Drops.uniq hd (Drops.held hk (by omega))
    obtain ⟨p, cap, rfl⟩ : ∃ p cap, vo = .slice p 0 cap := by
      rcases own_refs (l := []) hown with ⟨rfl, _⟩ | ⟨g, cap, rfl, _⟩
      · exact ⟨_, _, rfl⟩
      · exact ⟨_, _, rfl⟩
    refine ⟨p, cap, rfl, L.set j { n with count := n.count - 1 }, ?_, ⟨fun i m hi => ?_, fun m hm => ?_, ?_⟩, by simp, hkeep⟩
    · rw [Int.toNat_natCast] at hch
      rw [List.map_set]; exact hch
    · rw [List.length_set]
      by_cases e : j = i
      · subst e
        rw [List.getElem?_set_self (by omega)] at hi
        injection hi with hi
        subst hi
        obtain ⟨h1, h2, h3, h4, h5⟩ := hr.at_ _ _ hn
        rw [if_pos (.inl (by omega))]
        exact ⟨h1, h2, h3, h4, by dsimp only; omega⟩
      · rw [List.getElem?_set_ne e] at hi
        obtain ⟨h1, h2, h3, h4, h5⟩ := hr.at_ _ _ hi
        refine ⟨h1, h2, h3, h4, h5.trans ?_⟩
        by_cases e2 : i < j ∨ i + 1 = L.length
        · rw [if_pos e2, if_pos (by omega)]
        · rw [if_neg e2, if_neg (by omega)]
    · rw [List.length_set, List.getElem?_set_ne (by omega)] at hm
      exact hr.last m hm
    · rw [← hr.prs_]
      unfold prs
      rw [List.map_set]
      apply List.ext_getElem?
      intro i
      by_cases e : j = i
      · subst e
        rw [List.getElem?_set_self (by simpa using by omega), List.getElem?_map, hn]
        rfl
      · rw [List.getElem?_set_ne e]

theorem RowJ.rowy {P : List (Int × Int)} {L : List CN} {cell j : Nat} (h : RowJ P L cell j) : Rowy (L.map some) L := fun i n hi => ⟨by rw [cget_map_nat]; exact hi, (h.at_ i n hi).1⟩

theorem sets_row {X : Nat → Prop} {W : World} {c mb : Nat} {P : List (Int × Int)} {L : List CN} {cell j : Nat} (h : IsChain X W c mb (L.map some)) (hr : RowJ P L cell j) (hl : L.length ≤ 1000) (hpos : 0 < L.length) (hc : cell ≤ 100) :
    Calls Try.prog 13 #[.pointer (some ⟨c, 0, none⟩), .int .i64 ((L.length : Int) - 1)] W fun e w' => ∃ v, e = .returned v ∧ IsRows (fun b => W.heap.size ≤ b) w' v (rowsOf (cell + 1) P) ∧ Below W.heap.size W w' := by
  obtain ⟨n, hn⟩ : ∃ n, L[L.length - 1]? = some n := ⟨_, List.getElem?_eq_getElem (by omega)⟩
  have hk : cget (L.map some) ((L.length : Int) - 1) = some n := by rw [show (L.length : Int) - 1 = ((L.length - 1 : Nat) : Int) from by omega, cget_map_nat]; exact hn
  have hlc := hr.last n hn
  have hall : ∀ m ∈ L, 0 ≤ m.cell ∧ m.cell ≤ cell := fun m hm => by
    obtain ⟨i, hi⟩ := List.getElem?_of_mem hm
    obtain ⟨_, _, h3, h4, _⟩ := hr.at_ i m hi
    exact ⟨h3, h4⟩
  refine (sets_yes h _ n L.reverse hk hr.rowy.path (fun m hm => ?_) (cell + 1) (by omega) (by omega) (by simp; omega)).mono ?_
  · have := hall m (by simpa using hm); omega
  · rintro e w' ⟨v, rfl, hv, hb⟩
    refine ⟨v, rfl, ?_, hb⟩
    rw [setsS_eq _ _ (fun m hm => (hall m (by simpa using hm)).1), List.reverse_reverse] at hv
    rw [← hr.prs_]
    exact hv

theorem drop_all {X : Nat → Prop} {W : World} {c mb : Nat} {P : List (Int × Int)} {L : List CN} {cell j : Nat} (h : IsChain X W c mb (L.map some)) (hr : RowJ P L cell j) (hl : L.length ≤ 1000) (hpos : 0 < L.length) (hj : L.length ≤ j + 1) :
    Calls Try.prog 11 #[.pointer (some ⟨c, 0, none⟩), .int .i64 ((L.length : Int) - 1)] W fun e w' => ∃ g cap M', e = .returned (.tuple #[.slice (some ⟨g, 0, none⟩) L.length cap, .bool true]) ∧
      W.heap.size ≤ g ∧ g < w'.heap.size ∧ (∀ i : Nat, i < L.length → w'.cell? ⟨g, 2 * i, none⟩ = some (.int .i64 ((L.length : Int) - 1 - (i : Int)))) ∧ IsChain X w' c mb M' ∧ cnt M' = 0 ∧ Keep X W w' := by
  obtain ⟨n, hn⟩ : ∃ n, L[L.length - 1]? = some n := ⟨_, List.getElem?_eq_getElem (by omega)⟩
  have hk : cget (L.map some) ((L.length : Int) - 1) = some n := by rw [show (L.length : Int) - 1 = ((L.length - 1 : Nat) : Int) from by omega, cget_map_nat]; exact hn
  have hc1 : ∀ m ∈ L, m.count = 1 := fun m hm => by
    obtain ⟨i, hi⟩ := List.getElem?_of_mem hm
    obtain ⟨_, _, _, _, h5⟩ := hr.at_ i m hi
    have := (List.getElem?_eq_some_iff.1 hi).1
    rw [if_pos (by omega)] at h5
    exact h5
  obtain ⟨M2, hd2, _, _, hcn⟩ := hr.rowy.drops (fun m hm => by have := hc1 m hm; omega)
  rw [cnt_map] at hcn
  refine (drop_yes h _ hk (fun k m hm => ?_) (by rw [cnt_map]; omega)).mono ?_
  · rw [cget_map] at hm
    split at hm
    · have := hc1 m (List.mem_of_getElem? hm); omega
    · cases hm
  · rintro e w' ⟨vo, out, M', rfl, hd, hown, hch, hkeep⟩
    obtain ⟨rfl, rfl⟩ := Drops.uniq hd hd2
    have hlen : (L.reverse.map fun n => (n.slot, n.gen)).length = L.length := by simp
    rcases own_refs hown with ⟨_, h0⟩ | ⟨g, cap, rfl, hg, hgl, hcells⟩
    · rw [h0] at hlen; simp at hlen; omega
    · refine ⟨g, cap, M', by rw [hlen], hg, hgl, fun i hi => ?_, hch, by omega, hkeep⟩
      obtain ⟨m, hm⟩ : ∃ m, L[L.length - 1 - i]? = some m := ⟨_, List.getElem?_eq_getElem (by omega)⟩
      have h1 : (L.reverse.map fun n => (n.slot, n.gen))[i]? = some (m.slot, m.gen) := by
        rw [List.getElem?_map, List.getElem?_reverse hi, hm]; rfl
      rw [(hcells i _ h1).1]
      obtain ⟨_, h2, _⟩ := hr.at_ _ m hm
      rw [h2]
      congr 2
      omega

theorem sets_rowN {X : Nat → Prop} {W : World} {c mb : Nat} {P : List (Int × Int)} {L : List CN} {cell j N : Nat} (hN : L.length = N) (h : IsChain X W c mb (L.map some)) (hr : RowJ P L cell j) (hl : N ≤ 1000) (hpos : 0 < N) (hc : cell ≤ 100) :
    Calls Try.prog 13 #[.pointer (some ⟨c, 0, none⟩), .int .i64 ((N : Int) - 1)] W fun e w' => ∃ v, e = .returned v ∧ IsRows (fun b => W.heap.size ≤ b) w' v (rowsOf (cell + 1) P) ∧ Below W.heap.size W w' := by
  subst hN
  exact sets_row h hr hl hpos hc
theorem drop_allN {X : Nat → Prop} {W : World} {c mb : Nat} {P : List (Int × Int)} {L : List CN} {cell j N : Nat} (hN : L.length = N) (h : IsChain X W c mb (L.map some)) (hr : RowJ P L cell j) (hl : N ≤ 1000) (hpos : 0 < N) (hj : N ≤ j + 1) :
    Calls Try.prog 11 #[.pointer (some ⟨c, 0, none⟩), .int .i64 ((N : Int) - 1)] W fun e w' => ∃ g cap M', e = .returned (.tuple #[.slice (some ⟨g, 0, none⟩) N cap, .bool true]) ∧
      W.heap.size ≤ g ∧ g < w'.heap.size ∧ (∀ i : Nat, i < N → w'.cell? ⟨g, 2 * i, none⟩ = some (.int .i64 ((N : Int) - 1 - (i : Int)))) ∧ IsChain X w' c mb M' ∧ cnt M' = 0 ∧ Keep X W w' := by
  subst hN
  exact drop_all h hr hl hpos hj
theorem live_rowN {X : Nat → Prop} {W : World} {c mb : Nat} {L : List CN} {N : Nat} (hN : L.length = N) (h : IsChain X W c mb (L.map some)) :
    Calls Try.prog 14 #[.pointer (some ⟨c, 0, none⟩)] W fun e w' => e = .returned (.int .i64 (N : Int)) ∧ W = w' := by
  subst hN
  refine (live_any h).mono ?_
  rintro e w' ⟨rfl, rfl⟩
  exact ⟨by rw [cnt_map], rfl⟩
theorem live_none {X : Nat → Prop} {W : World} {c mb : Nat} {M : CS} (h : IsChain X W c mb M) (h0 : cnt M = 0) :
    Calls Try.prog 14 #[.pointer (some ⟨c, 0, none⟩)] W fun e w' => e = .returned (.int .i64 0) ∧ W = w' := by
  refine (live_any h).mono ?_
  rintro e w' ⟨rfl, rfl⟩
  exact ⟨by rw [h0]; rfl, rfl⟩
theorem cmp_same {R R' : Nat → Prop} {w : World} {v v' : Value} {xss : List (List Int)} (h : IsRows R w v xss) (h' : IsRows R' w v' xss) (hl : xss.length ≤ 1000000) (hl2 : ∀ xs ∈ xss, xs.length ≤ 1000000) :
    Calls Try.prog 12 #[v, v'] w fun e w' => e = .returned (.int .i64 0) ∧ Below w.heap.size w w' := by
  refine (cmp_eq h h' hl hl2).mono ?_
  rintro e w' ⟨rfl, n, rfl⟩
  exact ⟨rfl, below_drewN (Below.refl _ _) n⟩
theorem rowsOf_le (m : Nat) (P : List (Int × Int)) : ∀ xs ∈ rowsOf m P, xs.length ≤ P.length := by
  intro xs hx
  unfold rowsOf at hx
  obtain ⟨c, _, rfl⟩ := List.mem_map.1 hx
  rw [List.length_map]
  exact List.length_filter_le _ _
theorem IsChain.below {X : Nat → Prop} {w w' : World} {c mb : Nat} {M : CS} (h : IsChain X w c mb M) (k : Below w.heap.size w w') : IsChain X w' c mb M := h.keep (Keep.of_below k (fun _ => False)) fun _ _ f => f

end Go.Proofs.Ythflfafenehofaa
