/-
  Push behind the last of a row of nodes; 'append' by what it gives.
-/
import Derived.Test.YthflfafenehofaaW2
import Derived.Test.YthflfafenehofaaP2
import Derived.Test.YthflfafenehofaaV1
namespace Go.Proofs.Ythflfafenehofaa
open Go.RowKit Go.Shelf

theorem wpList_append_run {P : Program} {ops : Array Oper} {rest : List Oper} {o : Oper} {a : Act} {w : World} {Q : Exit → Act → World → Prop} (hgd : o.guard = none) (s x : Operand) (t : TypeId)
    (ho : o.op = .call { callee := .builtin .append, args := #[s, x], argTypes := #[t, t] }) (v x' : Value) (hs : a.eval s = v) (hx : a.eval x = x') {v' : Value} {w' : World}
    (hr : (Builtin.append_ #[t, t] o.type #[v, x']).run P w = .ok v' w') (h : wpList P ops Q rest (a.put o.dst v') w') : wpList P ops Q (o :: rest) a w := by
  refine wpList_plain hgd fun K hK => ?_
  unfold Oper.wp execOp
  simp only [ho, resolve, invoke, builtin, Sem.run_bind, Sem.run_pure, Result.andThen_ok, List.map_toArray, List.map_cons, List.map_nil, hs, hx, hr]
  exact hK _ _ h

theorem push_row {X : Nat → Prop} {W : World} {c mb : Nat} {nums : List Int} {L : List CN} {cell : Nat} (h : IsChain X W c mb (L.map some)) (hr : RowOf nums L cell) (hl : L.length ≤ 1000) (cell' : Nat) (h1 : cell ≤ cell') (h2 : cell' ≤ cell + 1) (h3 : L = [] → cell' = 0) (h5 : cell' ≤ 5)
    {x : Int} (hx : nums[L.length]? = some x) :
    Calls Try.prog 10 #[.pointer (some ⟨c, 0, none⟩), .int .i64 ((L.length : Int) - 1), .int .i64 (cell' : Int), .int .i64 x, .agg #[.int .i64 (L.length : Int), .int .i64 0]] W fun e w' => e = .returned (.tuple #[.int .i64 (L.length : Int), .bool true]) ∧
      ∃ (L' : List CN) (X' : Nat → Prop), IsChain X' w' c mb (L'.map some) ∧ RowOf nums L' cell' ∧ prs L' = prs L ++ [((cell' : Int), x)] ∧ L'.length = L.length + 1 ∧ Keep X W w' ∧ (∀ b, X' b → X b ∨ W.heap.size ≤ b) := by
  have hlen : ((L.map some).length : Int) = (L.length : Int) := by rw [List.length_map]
  by_cases h0 : L = []
  · subst h0
    have hc := h3 rfl
    subst hc
    refine (push_first h (by simp) (cget_neg _) x 0 0).mono ?_
    rintro e w' ⟨rfl, hch, hk⟩
    refine ⟨rfl, [⟨W.heap.size + 1, -1, 0, x, 0, 0, 1⟩], _, hch, RowOf.first hx _ _, rfl, rfl, hk, fun b hb => ?_⟩
    rcases hb with hb | hb
    · exact .inl hb
    · exact .inr (by omega)
  · have hpos : 0 < L.length := List.length_pos_iff.2 h0
    obtain ⟨p, hp⟩ : ∃ p, L[L.length - 1]? = some p := ⟨_, List.getElem?_eq_getElem (by omega)⟩
    obtain ⟨q1, q2, q3, q4, q5, q6⟩ := hr.at_ _ _ hp
    have hpc := hr.last _ hp
    rw [if_pos (by omega)] at q6
    have hk : cget (L.map some) ((L.length : Int) - 1) = some p := by rw [show (L.length : Int) - 1 = ((L.length - 1 : Nat) : Int) from by omega, cget_map_nat]; exact hp
    refine (push_next h (by rw [hlen]; omega) _ (cell' : Int) x (L.length : Int) 0 hk (by omega) (by omega) (by omega)).mono ?_
    rintro e w' ⟨rfl, hch, hkk⟩
    refine ⟨by rw [hlen], L.set (L.length - 1) { p with count := p.count + 1 } ++ [⟨W.heap.size + 1, (L.length : Int) - 1, (cell' : Int), x, (L.length : Int), 0, 1⟩], fun k => X k ∨ k = W.heap.size + 1, ?_, hr.snoc hp cell' h1 hx _ _, prs_snoc L hp _ _, by simp, hkk, fun b hb => ?_⟩
    · rw [List.map_append, List.map_set]
      rw [show ((L.length : Int) - 1).toNat = L.length - 1 from by omega] at hch
      exact hch
    · rcases hb with hb | hb
      · exact .inl hb
      · exact .inr (by omega)

theorem Want.slice_put {B : Nat} {X : Nat → Prop} {W : World} {v v' : Value} {rows : List (List Int)} {cs : List Value} {i : Nat} {x : Int} (h : Want B X W v (rows.modify i (· ++ [x])) (cs.set i v')) (hi : i < rows.length) : ∃ p l c, v' = .slice p l c := by
  have hl := h.own.1
  rw [List.length_set, List.length_modify] at hl
  obtain ⟨vi, e1, e2⟩ := h.row i _ (by rw [List.getElem?_modify, List.getElem?_eq_getElem hi]; rfl)
  rw [List.getElem?_set_self (by omega)] at e1
  cases e1
  rcases e2.2 with ⟨h1, _⟩ | ⟨g, cap, cur, h1, _⟩
  · exact ⟨_, _, _, h1⟩
  · exact ⟨_, _, _, h1⟩

end Go.Proofs.Ythflfafenehofaa
