/-
  The walk of awake.
-/
import Derived.Test.YtlndkeofhcneaaaW9
namespace Go.Proofs.Ytlndkeofhcneaaa
open Go.RowKit Go.Shelf

attribute [local go_sem] Oper.semAt_some

theorem Asc.snoc {C : List EN} (h : Asc C) {e : EN} (he : ∀ x, C[C.length - 1]? = some x → x.id < e.id) : Asc (C ++ [e]) := by
  intro j k a b ha hb hjk
  have hk := (List.getElem?_eq_some_iff.1 hb).1
  simp at hk
  by_cases hkl : k < C.length
  · rw [List.getElem?_append_left hkl] at hb
    rw [List.getElem?_append_left (by omega)] at ha
    exact h j k a b ha hb hjk
  · have : k = C.length := by omega
    subst this
    rw [List.getElem?_append_right (Nat.le_refl _)] at hb
    simp at hb
    subst hb
    rw [List.getElem?_append_left hjk] at ha
    obtain ⟨x, hx⟩ : ∃ x, C[C.length - 1]? = some x := ⟨_, List.getElem?_eq_getElem (by omega)⟩
    have h1 := he x hx
    by_cases hj : j = C.length - 1
    · subst hj; rw [hx] at ha; cases ha; exact h1
    · have := h j (C.length - 1) a x ha hx (by omega)
      omega
theorem Asc.set {C : List EN} (h : Asc C) {i : Nat} {c : EN} (hc : C[i]? = some c) (to : Int) : Asc (C.set i { c with to := to }) := by
  have key : ∀ (j : Nat) (a : EN), (C.set i { c with to := to })[j]? = some a → ∃ a', C[j]? = some a' ∧ a'.id = a.id := fun j a ha => by
    by_cases e : i = j
    · subst e
      rw [List.getElem?_set_self (List.getElem?_eq_some_iff.1 hc).1] at ha
      injection ha with ha
      subst ha
      exact ⟨c, hc, rfl⟩
    · rw [List.getElem?_set_ne e] at ha
      exact ⟨a, ha, rfl⟩
  intro j k a b ha hb hjk
  obtain ⟨a', ha', e1⟩ := key j a ha
  obtain ⟨b', hb', e2⟩ := key k b hb
  have := h j k a' b' ha' hb' hjk
  omega

theorem tab_zero (W : World) : TabOK W (.slice none 0 0) 0 := .inl ⟨rfl, rfl⟩

set_option maxHeartbeats 2000000 in
set_option maxRecDepth 100000 in
theorem awake_any (w : World) : Calls Try.prog 7 #[] w fun e w' => e = .returned (.bool true) ∧ Below w.heap.size w w' := by
  go_enter Try.func7, Try.ntmps7
  go_wp2_with fail
  go_at_call 11
  refine (add_yes (IsRoll.nil w) 3 none 0 0 0 (by simp) (tab_zero _) ⟨by omega, fun e h => by simp at h⟩).mono ?_
  rintro e w1 ⟨hb1, r1, v1, rfl, h1⟩
  go_wp2_with fail
  go_at_call 11
  refine (add_yes h1 5 none 0 0 0 (by simp) (tab_zero _) ⟨by omega, fun e h => by simp at h; subst h; decide⟩).mono ?_
  rintro e w2 ⟨hb2, r2, v2, rfl, h2⟩
  have hasc : Asc ([] ++ [⟨3, -1, 0, none, 0, 0⟩] ++ [⟨5, -1, 0, none, 0, 0⟩]) := (Asc.nil.snoc (fun e h => by simp at h)).snoc fun e h => by simp at h; subst h; decide
  go_wp2_with fail
  go_at_call 9
  refine (end_yes h2 hasc 3 7 (by simp) 0 ⟨3, -1, 0, none, 0, 0⟩ rfl rfl rfl (by decide)).mono ?_
  rintro e w3 ⟨hb3, r3, v3, rfl, h3⟩
  have hb := below_then hb1 (below_then hb2 hb3)
  have e4 : (liveC 4 (([] ++ [⟨3, -1, 0, none, 0, 0⟩] ++ [⟨5, -1, 0, none, 0, 0⟩] : List EN).set 0 ⟨3, 7, 0, none, 0, 0⟩)).length = 1 := by decide
  have e6 : (liveC 6 (([] ++ [⟨3, -1, 0, none, 0, 0⟩] ++ [⟨5, -1, 0, none, 0, 0⟩] : List EN).set 0 ⟨3, 7, 0, none, 0, 0⟩)).length = 2 := by decide
  have e7 : (liveC 7 (([] ++ [⟨3, -1, 0, none, 0, 0⟩] ++ [⟨5, -1, 0, none, 0, 0⟩] : List EN).set 0 ⟨3, 7, 0, none, 0, 0⟩)).length = 2 := by decide
  have e8 : (liveC 8 (([] ++ [⟨3, -1, 0, none, 0, 0⟩] ++ [⟨5, -1, 0, none, 0, 0⟩] : List EN).set 0 ⟨3, 7, 0, none, 0, 0⟩)).length = 1 := by decide
  have HL : ∀ (W : World), Below w3.heap.size w3 W → IsRoll W r3 v3 (([] ++ [⟨3, -1, 0, none, 0, 0⟩] ++ [⟨5, -1, 0, none, 0, 0⟩] : List EN).set 0 ⟨3, 7, 0, none, 0, 0⟩) := fun W hW => h3.below hW
  have hLl : (([] ++ [⟨3, -1, 0, none, 0, 0⟩] ++ [⟨5, -1, 0, none, 0, 0⟩] : List EN).set 0 ⟨3, 7, 0, none, 0, 0⟩).length ≤ 1000 := by decide
  generalize ([] ++ [⟨3, -1, 0, none, 0, 0⟩] ++ [⟨5, -1, 0, none, 0, 0⟩] : List EN).set 0 ⟨3, 7, 0, none, 0, 0⟩ = L at e4 e6 e7 e8 HL hLl
  clear h1 h2 h3 hasc hb1 hb2 hb3
  have HH := Lib.hid HL
  have HB := Lib.hid hb
  clear HL hb
  go_wp2_with fail
  go_at_call 16
  refine (len_any 4 (HH.out _ (Below.refl _ _)) hLl).mono ?_
  rintro e w4 ⟨rfl, hb4⟩
  rw [e4]
  have HB4 := Lib.hid hb4
  clear hb4
  go_wp2_with fail
  go_at_call 16
  refine (len_any 6 (HH.out _ HB4.out) hLl).mono ?_
  rintro e w5 ⟨rfl, hb5⟩
  rw [e6]
  have HB5 := Lib.hid (below_then HB4.out hb5)
  clear hb5
  go_wp2_with fail
  go_at_call 16
  refine (len_any 7 (HH.out _ HB5.out) hLl).mono ?_
  rintro e w6 ⟨rfl, hb6⟩
  rw [e7]
  have HB6 := Lib.hid (below_then HB5.out hb6)
  clear hb6
  go_wp2_with fail
  go_at_call 16
  refine (len_any 8 (HH.out _ HB6.out) hLl).mono ?_
  rintro e w7 ⟨rfl, hb7⟩
  rw [e8]
  have HB7 := Lib.hid (below_then HB6.out hb7)
  clear hb7
  go_wp2_with fail
  go_at_call 16
  refine (len_any 9 (IsRoll.nil _) (Nat.zero_le _)).mono ?_
  rintro e w8 ⟨rfl, hb8⟩
  have e9 : (liveC 9 []).length = 0 := rfl
  rw [e9]
  have HB8 := Lib.hid (below_then HB7.out hb8)
  clear hb8
  go_wp2_with fail
  go_ret
  exact ⟨rfl, below_then HB.out HB8.out⟩

end Go.Proofs.Ytlndkeofhcneaaa
