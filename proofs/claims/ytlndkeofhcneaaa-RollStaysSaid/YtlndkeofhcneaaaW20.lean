/-
  What both rolls do, side by side.
-/
import Derived.Test.YtlndkeofhcneaaaW16
import Derived.Test.YtlndkeofhcneaaaW18
import Derived.Test.YtlndkeofhcneaaaW19
import Derived.Test.YtlndkeofhcneaaaOpenA
namespace Go.Proofs.Ytlndkeofhcneaaa
open Go.RowKit Go.Shelf

attribute [local go_sem] Oper.semAt_some

theorem Alike.snoc {C D : List EN} {c d : EN} (h : Alike C D) (he : AlikeE c d) : Alike (C ++ [c]) (D ++ [d]) := by
  have hlen := h.len
  refine ⟨by simp [hlen], fun j x y hx hy => ?_⟩
  have hj := (List.getElem?_eq_some_iff.1 hx).1
  rw [List.length_append, List.length_singleton] at hj
  by_cases e : j < C.length
  · rw [List.getElem?_append_left e] at hx
    rw [List.getElem?_append_left (by omega)] at hy
    exact h.each j x y hx hy
  · obtain rfl : j = C.length := by omega
    rw [List.getElem?_append_right (Nat.le_refl _), Nat.sub_self] at hx
    rw [List.getElem?_append_right (by omega), hlen, Nat.sub_self] at hy
    simp at hx hy
    subst hx; subst hy
    exact he
theorem Alike.setTo {C D : List EN} {c d : EN} {i : Nat} (h : Alike C D) (hc : C[i]? = some c) (hd : D[i]? = some d) (x : Int) : Alike (C.set i { c with to := x }) (D.set i { d with to := x }) := by
  refine ⟨by simp [h.len], fun j a b ha hb => ?_⟩
  have hcd := h.each i c d hc hd
  by_cases e : i = j
  · subst e
    rw [List.getElem?_set_self (List.getElem?_eq_some_iff.1 hc).1] at ha
    rw [List.getElem?_set_self (List.getElem?_eq_some_iff.1 hd).1] at hb
    cases ha; cases hb
    exact ⟨hcd.id, rfl, hcd.win, hcd.left, hcd.right⟩
  · rw [List.getElem?_set_ne e] at ha hb
    exact h.each j a b ha hb

def AddYes (C : List EN) (id : Int) : Prop := 0 ≤ id ∧ ∀ e, C[C.length - 1]? = some e → e.id < id
def AddNo (C : List EN) (id : Int) : Prop := id < 0 ∨ ∃ e, C[C.length - 1]? = some e ∧ id ≤ e.id
def EndYes (C : List EN) (id at_ : Int) (i : Nat) (c : EN) : Prop := C[i]? = some c ∧ c.id = id ∧ c.to = -1 ∧ id < at_
def EndNo (C : List EN) (id at_ : Int) : Prop := (∀ e ∈ C, e.id ≠ id) ∨ ∃ (k : Nat) (e : EN), C[k]? = some e ∧ e.id = id ∧ (e.to ≠ -1 ∨ at_ ≤ id)

theorem add_cases (C : List EN) (id : Int) : AddYes C id ∨ AddNo C id := by
  by_cases h : id < 0
  · exact .inr (.inl h)
  · cases e : C[C.length - 1]? with
    | none => exact .inl ⟨by omega, fun x hx => by rw [e] at hx; cases hx⟩
    | some x =>
      by_cases hx : x.id < id
      · exact .inl ⟨by omega, fun y hy => by rw [e] at hy; cases hy; exact hx⟩
      · exact .inr (.inr ⟨x, e, by omega⟩)
theorem end_cases (C : List EN) (id at_ : Int) : (∃ i c, EndYes C id at_ i c) ∨ EndNo C id at_ := by
  by_cases h : ∀ e ∈ C, e.id ≠ id
  · exact .inr (.inl h)
  · obtain ⟨e, h⟩ := Classical.not_forall.1 h
    obtain ⟨he, hid⟩ := Classical.not_imp.1 h
    have hid := Classical.not_not.1 hid
    obtain ⟨k, hk⟩ := List.getElem?_of_mem he
    by_cases hy : e.to = -1 ∧ id < at_
    · exact .inl ⟨k, e, hk, hid, hy.1, hy.2⟩
    · refine .inr (.inr ⟨k, e, hk, hid, ?_⟩)
      by_cases ht : e.to = -1
      · exact .inr (by have := fun h => hy ⟨ht, h⟩; omega)
      · exact .inl ht
theorem Alike.other {C D : List EN} (h : Alike C D) {j : Nat} {c : EN} (hc : C[j]? = some c) : ∃ d, D[j]? = some d ∧ AlikeE c d := by
  obtain ⟨d, hd⟩ : ∃ e, D[j]? = some e := ⟨_, List.getElem?_eq_getElem (by have := (List.getElem?_eq_some_iff.1 hc).1; have := h.len; omega)⟩
  exact ⟨d, hd, h.each j c d hc hd⟩
theorem Alike.back {C D : List EN} (h : Alike C D) {j : Nat} {d : EN} (hd : D[j]? = some d) : ∃ c, C[j]? = some c ∧ AlikeE c d := by
  obtain ⟨c, hc⟩ : ∃ e, C[j]? = some e := ⟨_, List.getElem?_eq_getElem (by have := (List.getElem?_eq_some_iff.1 hd).1; have := h.len; omega)⟩
  exact ⟨c, hc, h.each j c d hc hd⟩
theorem Alike.addYes {C D : List EN} (h : Alike C D) {id : Int} (hy : AddYes C id) : AddYes D id := ⟨hy.1, fun e he => by
  rw [← h.len] at he
  obtain ⟨c, hc, hcd⟩ := h.back he
  have := hy.2 c hc
  have := hcd.id
  omega⟩
theorem Alike.addNo {C D : List EN} (h : Alike C D) {id : Int} (hy : AddNo C id) : AddNo D id := by
  rcases hy with hy | ⟨e, he, hle⟩
  · exact .inl hy
  · obtain ⟨d, hd, hcd⟩ := h.other he
    rw [h.len] at hd
    exact .inr ⟨d, hd, by have := hcd.id; omega⟩
theorem Alike.endYes {C D : List EN} (h : Alike C D) {id at_ : Int} {i : Nat} {c : EN} (hy : EndYes C id at_ i c) : ∃ d, EndYes D id at_ i d := by
  obtain ⟨h1, h2, h3, h4⟩ := hy
  obtain ⟨d, hd, hcd⟩ := h.other h1
  exact ⟨d, hd, by rw [← hcd.id]; exact h2, by rw [← hcd.to]; exact h3, h4⟩
theorem Alike.endNo {C D : List EN} (h : Alike C D) {id at_ : Int} (hy : EndNo C id at_) : EndNo D id at_ := by
  rcases hy with hy | ⟨k, e, he, hid, hor⟩
  · refine .inl fun d hd => ?_
    obtain ⟨j, hj⟩ := List.getElem?_of_mem hd
    obtain ⟨c, hc, hcd⟩ := h.back hj
    rw [← hcd.id]
    exact hy c (List.mem_of_getElem? hc)
  · obtain ⟨d, hd, hcd⟩ := h.other he
    exact .inr ⟨k, d, hd, by rw [← hcd.id]; exact hid, by rw [← hcd.to]; exact hor⟩

/-- Both of them, alike. -/
structure Both (W : World) (r lv : Value) (C D : List EN) : Prop where
  roll : ∃ v, IsRoll W r v C
  row : IsEnts W lv D
  alike : Alike C D
  asc : Asc C
theorem Both.below {W W' : World} {r lv : Value} {C D : List EN} (h : Both W r lv C D) (k : Below W.heap.size W W') : Both W' r lv C D := by
  obtain ⟨⟨v, h1⟩, h2, h3, h4⟩ := h
  exact ⟨⟨v, h1.below k⟩, h2.below k, h3, h4⟩
theorem Both.nil (W : World) : Both W (.pointer none) (.slice none 0 0) [] [] := ⟨⟨_, IsRoll.nil W⟩, IsEnts.nil W, Alike.nil, Asc.nil⟩

theorem under24 : Try.prog.underlying 24 = some (.pointer 58) := by kernel_rfl
theorem info58 : (Try.prog.info? 58).isSome = true := by kernel_rfl
theorem run_neq_roll (p : Option Addr) (W : World) : (binOp .neq 24 (.pointer p) (.pointer p)).run Try.prog W = .ok (.bool false) W := by
  obtain ⟨j, hj⟩ := Option.isSome_iff_exists.1 info58
  have h : ∀ d : Nat, (Op.equalIn (d + 1) 24 (.pointer p) (.pointer p)).run Try.prog W = .ok true W := fun d => by
    cases p with
    | none => simp [Op.equalIn, run_underlying under24]
    | some a => simp [Op.equalIn, run_underlying under24, sizeOf, typeInfo, hj, run_sameAddr_same]
  simp only [binOp]
  simp [Op.equal, Op.maxDepth, h 9999]

end Go.Proofs.Ytlndkeofhcneaaa
