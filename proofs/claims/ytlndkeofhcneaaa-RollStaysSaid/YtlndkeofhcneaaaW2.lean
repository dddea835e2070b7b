/-
  The walk of the search.
-/
import Derived.Test.YtlndkeofhcneaaaW1
namespace Go.Proofs.Ytlndkeofhcneaaa
open Go.RowKit Go.Shelf

attribute [local go_sem] Oper.semAt_some

/-- What the search tells. -/
def Told (C : List EN) (id : Int) (i : Nat) (b : Bool) : Prop :=
  i ≤ C.length ∧ ((b = true ∧ ∃ e, C[i]? = some e ∧ e.id = id) ∨ (b = false ∧ ∀ e ∈ C, e.id ≠ id))

theorem told_of {C : List EN} (hs : Asc C) {id : Int} {i : Nat} (hi : i ≤ C.length) (h1 : ∀ (t : Nat) (e : EN), t < i → C[t]? = some e → e.id < id) (h2 : ∀ (t : Nat) (e : EN), i ≤ t → C[t]? = some e → id ≤ e.id) (b : Bool)
    (hb : b = true ↔ ∃ e, C[i]? = some e ∧ e.id = id) : Told C id i b := by
  refine ⟨hi, ?_⟩
  cases b with
  | true => exact .inl ⟨rfl, hb.1 rfl⟩
  | false =>
    refine .inr ⟨rfl, fun e he hid => ?_⟩
    obtain ⟨t, ht, rfl⟩ := List.getElem_of_mem he
    have hte : C[t]? = some C[t] := List.getElem?_eq_getElem ht
    rcases Nat.lt_trichotomy t i with h | h | h
    · have := h1 t _ h hte; omega
    · subst h
      exact Bool.noConfusion (hb.2 ⟨_, hte, hid⟩)
    · have hil : i < C.length := by omega
      have h3 := h2 i _ (Nat.le_refl _) (List.getElem?_eq_getElem hil)
      have h4 := hs i t _ _ (List.getElem?_eq_getElem hil) hte h
      omega

/-- Between which places it searches. -/
structure Mid (C : List EN) (id : Int) (lo hi : Nat) : Prop where
  lo : ∀ (t : Nat) (e : EN), t < lo → C[t]? = some e → e.id < id
  hi : ∀ (t : Nat) (e : EN), hi ≤ t → C[t]? = some e → id ≤ e.id

set_option maxHeartbeats 1000000 in
set_option maxRecDepth 100000 in
theorem search_any {W : World} {v : Value} {C : List EN} (h : IsEnts W v C) (hs : Asc C) (hl : C.length ≤ 1000) (id : Int) :
    Calls Try.prog 27 #[v, .int .i64 id, .func (.func 28) #[] #[]] W fun e w' => ∃ i b, e = .returned (.tuple #[.int .i64 (i : Nat), .bool b]) ∧ Told C id i b ∧ Below W.heap.size W w' := by
  rcases h.cells with ⟨rfl, rfl⟩ | ⟨g, cap, rfl, hg, hcap, hfr, hcell⟩
  · clear h
    go_enter Try.func27, Try.ntmps27
    go_wp2_with fail
    go_loopw [9, 10] (fun s9 s10 wr => s9 = .int .i64 0 ∧ s10 = .int .i64 0 ∧ W = wr) (fun _ _ _ => 0)
    case atStart => exact ⟨rfl, rfl, rfl⟩
    case round =>
      obtain ⟨rfl, rfl, rfl⟩ := hrel
      go_wp2_with fail
      go_ret2
      exact ⟨0, false, rfl, ⟨Nat.le_refl _, .inr ⟨rfl, fun e he => by cases he⟩⟩, Below.refl _ _⟩
  · have HC := Lib.hid hcell
    have HS := Lib.hid hs
    clear h hfr hcell hs
    go_enter Try.func27, Try.ntmps27
    go_wp2_with fail
    go_loopw [9, 10] (fun s9 s10 wr => ∃ lo hi : Nat, s9 = .int .i64 (lo : Int) ∧ s10 = .int .i64 (hi : Int) ∧ lo ≤ hi ∧ hi ≤ C.length ∧ Mid C id lo hi ∧ Below W.heap.size W wr)
      (fun s9 s10 _ => (intOf s10 - intOf s9).toNat)
    case atStart => exact ⟨0, C.length, rfl, rfl, Nat.zero_le _, Nat.le_refl _, ⟨fun t e h => absurd h (Nat.not_lt_zero _), fun t e h1 h2 => by have := (List.getElem?_eq_some_iff.1 h2).1; omega⟩, Below.refl _ _⟩
    case round =>
      obtain ⟨lo, hi, rfl, rfl, hlh, hhi, HI, hb⟩ := hrel
      obtain ⟨wa, rfl⟩ : ∃ wa, wa = wr := ⟨_, rfl⟩
      have hga : g < wa.heap.size := Nat.lt_of_lt_of_le hg hb.size
      by_cases hlt : lo < hi
      · obtain ⟨e, he⟩ : ∃ e, C[(lo + hi) / 2]? = some e := ⟨_, List.getElem?_eq_getElem (by omega)⟩
        obtain ⟨d0, d1, d2, d3, d4⟩ := HC.out _ e he
        have c0 := (hb.cell (p := ⟨g, (lo + hi) / 2 * 5, none⟩) hg).trans d0
        have c1 := (hb.cell (p := ⟨g, (lo + hi) / 2 * 5 + 1, none⟩) hg).trans d1
        have c2 := (hb.cell (p := ⟨g, (lo + hi) / 2 * 5 + 2, none⟩) hg).trans d2
        have c3 := (hb.cell (p := ⟨g, (lo + hi) / 2 * 5 + 3, none⟩) hg).trans d3
        have c4 := (hb.cell (p := ⟨g, (lo + hi) / 2 * 5 + 4, none⟩) hg).trans d4
        clear d0 d1 d2 d3 d4
        have HE := Lib.hid he
        clear he
        go_wp2_with fail
        go_at_call 28
        refine (cmp_any e id _).mono ?_
        rintro x w2 ⟨rfl, hb2⟩
        have hb3 := hb.trans (hb2.mono hb.size)
        clear c0 c1 c2 c3 c4
        by_cases hc : e.id < id
        · have ec : cmpI e.id id = -1 := by unfold cmpI; rw [if_pos hc]
          rw [ec]
          have HI2 : Mid C id ((lo + hi) / 2 + 1) hi := by
            refine ⟨fun t e' ht he' => ?_, HI.hi⟩
            rcases Nat.lt_or_ge t ((lo + hi) / 2) with h | h
            · have := HS.out t _ _ _ he' HE.out h; omega
            · have : t = (lo + hi) / 2 := by omega
              subst this
              rw [HE.out] at he'; cases he'; exact hc
          go_wp2_with fail
          go_roundw
          case rel => exact ⟨(lo + hi) / 2 + 1, hi, by rw [show ((lo : Int) + (hi : Int)) / 2 + 1 = (((lo + hi) / 2 + 1 : Nat) : Int) by omega], rfl, by omega, hhi, HI2, hb3⟩
          case measure => simp only [intOf]; omega
        · have ec : ¬ cmpI e.id id < 0 := by unfold cmpI; rw [if_neg hc]; split <;> omega
          have HI2 : Mid C id lo ((lo + hi) / 2) := by
            refine ⟨HI.lo, fun t e' ht he' => ?_⟩
            rcases Nat.lt_or_ge ((lo + hi) / 2) t with h | h
            · have := HS.out _ _ _ _ HE.out he' h; omega
            · have : t = (lo + hi) / 2 := by omega
              subst this
              rw [HE.out] at he'; cases he'; omega
          go_wp2_with fail
          go_roundw
          case rel => exact ⟨lo, (lo + hi) / 2, rfl, by rw [show ((lo : Int) + (hi : Int)) / 2 = (((lo + hi) / 2 : Nat) : Int) by omega], by omega, by omega, HI2, hb3⟩
          case measure => simp only [intOf]; omega
      · obtain rfl : hi = lo := by omega
        by_cases hn : hi < C.length
        · obtain ⟨e, he⟩ : ∃ e, C[hi]? = some e := ⟨_, List.getElem?_eq_getElem (by omega)⟩
          obtain ⟨d0, d1, d2, d3, d4⟩ := HC.out _ e he
          have c0 := (hb.cell (p := ⟨g, hi * 5, none⟩) hg).trans d0
          have c1 := (hb.cell (p := ⟨g, hi * 5 + 1, none⟩) hg).trans d1
          have c2 := (hb.cell (p := ⟨g, hi * 5 + 2, none⟩) hg).trans d2
          have c3 := (hb.cell (p := ⟨g, hi * 5 + 3, none⟩) hg).trans d3
          have c4 := (hb.cell (p := ⟨g, hi * 5 + 4, none⟩) hg).trans d4
          clear d0 d1 d2 d3 d4
          have HE := Lib.hid he
          clear he
          go_wp2_with fail
          go_at_call 28
          refine (cmp_any e id _).mono ?_
          rintro x w2 ⟨rfl, hb2⟩
          have hb3 := hb.trans (hb2.mono hb.size)
          clear c0 c1 c2 c3 c4
          by_cases hc : e.id = id
          · have ec : cmpI e.id id = 0 := by unfold cmpI; rw [if_neg (by omega), if_neg (by omega)]
            rw [ec]
            go_wp2_with fail
            go_ret2
            exact ⟨hi, true, rfl, told_of HS.out (by omega) HI.lo HI.hi _ ⟨fun _ => ⟨e, HE.out, hc⟩, fun _ => rfl⟩, hb3⟩
          · have ec : ¬ cmpI e.id id = 0 := by
              unfold cmpI
              rcases Int.lt_trichotomy e.id id with h | h | h
              · rw [if_pos h]; omega
              · exact absurd h hc
              · rw [if_neg (by omega), if_pos h]; omega
            have ec2 : (cmpI e.id id == 0) = false := by simpa using ec
            go_wp2_with fail
            go_ret2
            exact ⟨hi, false, rfl, told_of HS.out (by omega) HI.lo HI.hi _ ⟨fun h => (by cases h), fun ⟨e', h1, h2⟩ => by rw [HE.out] at h1; cases h1; exact absurd h2 hc⟩, hb3⟩
        · go_wp2_with fail
          go_ret2
          exact ⟨hi, false, rfl, told_of HS.out (by omega) HI.lo HI.hi _ ⟨fun h => (by cases h), fun ⟨e', h1, h2⟩ => by have := (List.getElem?_eq_some_iff.1 h1).1; omega⟩, hb⟩

end Go.Proofs.Ytlndkeofhcneaaa
