/-
  A map from numbers to values that the call itself has made: what it holds, as a function of the number; what a lookup, a store of a new number, and a delete do.
-/
import Derived.Carry
import Derived.IntWalk
import Derived.Laws.Sem
import Derived.MapKept
import Derived.Below
namespace Go.Proofs.Ythflfafenehofaa
open Go.MapKept Go.RowKit

/-- What a number has among entries. -/
def lk (k : Int) : List MapEntry → Option Value
  | [] => none
  | e :: es => match e.key with
    | .int .i64 q => if (k == q) = true then some e.val else lk k es
    | _ => lk k es

/-- All keys are numbers. -/
def IntKeys (es : List MapEntry) : Prop := ∀ e ∈ es, ∃ q, e.key = .int .i64 q

theorem IntKeys.tail {e : MapEntry} {es : List MapEntry} (h : IntKeys (e :: es)) : IntKeys es := fun x hx => h x (by simp [hx])

theorem findNow_int (k : Int) : ∀ (es : List MapEntry) (i : Nat), IntKeys es →
    (Instr.findNow (.int .i64) (.int .i64 k) es i = some none ∧ lk k es = none ∧ ∀ e ∈ es, e.key ≠ .int .i64 k) ∨
    ∃ j e, Instr.findNow (.int .i64) (.int .i64 k) es i = some (some (i + j, e.val)) ∧ es[j]? = some e ∧ e.key = .int .i64 k ∧ lk k es = some e.val
  | [], i, _ => .inl ⟨rfl, rfl, by simp⟩
  | e :: es, i, h => by
    obtain ⟨q, hq⟩ := h e (by simp)
    cases hkq : (k == q)
    · have hne : k ≠ q := by simpa using hkq
      rcases findNow_int k es (i + 1) h.tail with ⟨h1, h2, h3⟩ | ⟨j, e', h1, h2, h3, h4⟩
      · refine .inl ⟨by simp [Instr.findNow, hq, Instr.sameNow, hkq, h1], by simp [lk, hq, hkq, h2], ?_⟩
        intro x hx
        rcases List.mem_cons.1 hx with rfl | hx
        · rw [hq]; intro e2; injection e2 with _ e3; exact hne e3.symm
        · exact h3 x hx
      · exact .inr ⟨j + 1, e', by simp [Instr.findNow, hq, Instr.sameNow, hkq, h1]; omega, by simpa using h2, h3, by simp [lk, hq, hkq, h4]⟩
    · have he : k = q := by simpa using hkq
      subst he
      exact .inr ⟨0, e, by simp [Instr.findNow, hq, Instr.sameNow], rfl, hq, by simp [lk, hq]⟩

theorem lk_append (k k' : Int) (v : Value) (b : Nat) : ∀ es : List MapEntry, IntKeys es → lk k es = none → lk k' (es ++ [⟨.int .i64 k, v, b⟩]) = if k' = k then some v else lk k' es
  | [], _, _ => by by_cases h : k' = k <;> simp [lk, h]
  | e :: es, h, hn => by
    obtain ⟨q, hq⟩ := h e (by simp)
    have hkq : ¬ k = q := by
      intro e1; simp [lk, hq, e1] at hn
    have hn' : lk k es = none := by
      have : (k == q) = false := by simpa using hkq
      simpa [lk, hq, this] using hn
    have ih := lk_append k k' v b es h.tail hn'
    by_cases e1 : k' = q
    · have : ¬ k' = k := fun e2 => hkq (e2.symm.trans e1)
      simp [lk, hq, e1]
      intro e3; exact (hkq e3.symm).elim
    · have e2 : (k' == q) = false := by simpa using e1
      simp [lk, hq, e2, ih]

theorem lk_erase (k k' : Int) : ∀ (es : List MapEntry) (j : Nat) (e : MapEntry), IntKeys es → (es.map (·.key)).Nodup → es[j]? = some e → e.key = .int .i64 k →
    lk k' (es.eraseIdx j) = if k' = k then none else lk k' es
  | [], j, e, _, _, hj, _ => by simp at hj
  | x :: es, 0, e, h, hd, hj, hk => by
    obtain rfl : x = e := by simpa using hj
    simp only [List.eraseIdx_cons_zero]
    have hnot : ∀ y ∈ es, y.key ≠ .int .i64 k := by
      intro y hy e1
      have := (List.nodup_cons.1 (by rw [List.map_cons] at hd; exact hd)).1
      exact this (by rw [hk, ← e1]; exact List.mem_map.2 ⟨y, hy, rfl⟩)
    by_cases e1 : k' = k
    · subst e1
      rw [if_pos rfl]
      rcases findNow_int k' es 0 h.tail with ⟨_, h2, _⟩ | ⟨j, e', _, h2, h3, _⟩
      · exact h2
      · exact (hnot e' (List.mem_of_getElem? h2) h3).elim
    · rw [if_neg e1]
      have e2 : (k' == k) = false := by simpa using e1
      simp [lk, hk, e2]
  | x :: es, j + 1, e, h, hd, hj, hk => by
    obtain ⟨q, hq⟩ := h x (by simp)
    have hd' : (es.map (·.key)).Nodup := (List.nodup_cons.1 (by rw [List.map_cons] at hd; exact hd)).2
    have ih := lk_erase k k' es j e h.tail hd' (by simpa using hj) hk
    simp only [List.eraseIdx_cons_succ]
    have hqk : ¬ q = k := by
      intro e1
      have := (List.nodup_cons.1 (by rw [List.map_cons] at hd; exact hd)).1
      exact this (by rw [hq, e1, ← hk]; exact List.mem_map.2 ⟨e, List.mem_of_getElem? (by simpa using hj), rfl⟩)
    by_cases e1 : k' = q
    · subst e1
      simp [lk, hq, hqk]
    · have e2 : (k' == q) = false := by simpa using e1
      simp [lk, hq, e2, ih]

/-- Block b of w is a map of n entries, that has f. -/
def IMap (w : World) (b : Nat) (f : Int → Option Value) (n : Nat) : Prop :=
  ∃ es clk, w.heap[b]? = some (.map es clk) ∧ IntKeys es.toList ∧ (es.toList.map (·.key)).Nodup ∧ (∀ k, lk k es.toList = f k) ∧ es.size = n

theorem IMap.same {w w' : World} {b : Nat} {f : Int → Option Value} {n : Nat} (h : IMap w b f n) (e : w'.heap[b]? = w.heap[b]?) : IMap w' b f n := by
  obtain ⟨es, clk, h1, h2⟩ := h
  exact ⟨es, clk, e.trans h1, h2⟩
theorem IMap.lt {w : World} {b : Nat} {f : Int → Option Value} {n : Nat} (h : IMap w b f n) : b < w.heap.size := by
  obtain ⟨es, clk, h1, _⟩ := h
  exact (Array.getElem?_eq_some_iff.1 h1).1
theorem IMap.new (w : World) : IMap (w.alloc (.map #[] 0)) w.heap.size (fun _ => none) 0 :=
  ⟨#[], 0, (MapKept.heap_alloc w _).1, by intro e he; simp at he, by simp, fun _ => rfl, rfl⟩

section
variable {P : Program} {T K E : TypeId} {w : World} {b : Nat} {f : Int → Option Value} {n : Nat}

/-- A lookup tells what is there, or the zero value. -/
theorem IMap.lookup (hT : P.underlying T = some (.map K E)) (hK : P.underlying K = some (.int .i64)) {z : Value} (hz : (zeroValue E).run P w = .ok z w) (h : IMap w b f n) (k : Int) :
    (Instr.lookup T (.map (some b)) (.int .i64 k) false).run P w = .ok ((f k).getD z) w := by
  obtain ⟨es, clk, hb, hi, _, hf, _⟩ := h
  have hk : IsKey (.int .i64) (.int .i64 k) := by simp [IsKey]
  rw [← hf k]
  rcases findNow_int k es.toList 0 hi with ⟨h1, h2, _⟩ | ⟨j, e, h1, _, _, h4⟩
  · simp [Instr.lookup, run_underlying hT, MapKept.run_getObj_map hb, MapKept.run_checkKey hK hk, MapKept.run_findKey hK h1, h2, hz, Result.andThen]
  · simp [Instr.lookup, run_underlying hT, MapKept.run_getObj_map hb, MapKept.run_checkKey hK hk, MapKept.run_findKey hK h1, h4, Result.andThen]

/-- A store of a number that is not there. -/
theorem IMap.store (hT : P.underlying T = some (.map K E)) (hK : P.underlying K = some (.int .i64)) (h : IMap w b f n) (k : Int) (v : Value) (hk0 : f k = none) :
    ∃ w', (Instr.mapUpdate T (.map (some b)) (.int .i64 k) v).run P w = .ok () w' ∧ IMap w' b (fun q => if q = k then some v else f q) (n + 1) ∧
      w'.os = w.os ∧ w'.tape = w.tape ∧ w'.output = w.output ∧ w'.heap.size = w.heap.size ∧ ∀ i, i ≠ b → w'.heap[i]? = w.heap[i]? := by
  obtain ⟨es, clk, hb, hi, hd, hf, hn⟩ := h
  have hk : IsKey (.int .i64) (.int .i64 k) := by simp [IsKey]
  have hl : lk k es.toList = none := (hf k).trans hk0
  rcases findNow_int k es.toList 0 hi with ⟨h1, h2, h3⟩ | ⟨j, e, h1, _, _, h4⟩
  · refine ⟨{ w with heap := w.heap.setIfInBounds b (.map (es.push ⟨.int .i64 k, v, clk⟩) (clk + 1)) }, ?_, ?_, rfl, rfl, rfl, by simp, fun i hib => (heap_set hb).2 i hib⟩
    · simp [Instr.mapUpdate, run_underlying hT, MapKept.run_getObj_map hb, MapKept.run_checkKey hK hk, MapKept.run_findKey hK h1, MapKept.run_setObj_map _ hb, Result.andThen]
    · refine ⟨_, _, (heap_set hb).1, ?_, ?_, ?_, by simp [hn]⟩
      · intro e he
        rw [Array.toList_push] at he
        rcases List.mem_append.1 he with he | he
        · exact hi e he
        · simp at he; subst he; exact ⟨k, rfl⟩
      · rw [Array.toList_push, List.map_append, List.nodup_append]
        refine ⟨hd, by simp, ?_⟩
        intro a ha c hc
        simp at hc
        subst hc
        obtain ⟨e, he, rfl⟩ := List.mem_map.1 ha
        exact h3 e he
      · intro q
        rw [Array.toList_push, lk_append k q v clk es.toList hi hl, hf q]
  · rw [hl] at h4; cases h4

/-- A delete of a number that is there. -/
theorem IMap.erase {ty : TypeId} (hT : P.underlying T = some (.map K E)) (hK : P.underlying K = some (.int .i64)) (h : IMap w b f n) (k : Int) (hk0 : f k ≠ none) :
    ∃ w', (Builtin.delete_ #[T, K] ty #[.map (some b), .int .i64 k]).run P w = .ok (.tuple #[]) w' ∧ IMap w' b (fun q => if q = k then none else f q) (n - 1) ∧ 1 ≤ n ∧
      w'.os = w.os ∧ w'.tape = w.tape ∧ w'.output = w.output ∧ w'.heap.size = w.heap.size ∧ ∀ i, i ≠ b → w'.heap[i]? = w.heap[i]? := by
  obtain ⟨es, clk, hb, hi, hd, hf, hn⟩ := h
  have hk : IsKey (.int .i64) (.int .i64 k) := by simp [IsKey]
  rcases findNow_int k es.toList 0 hi with ⟨h1, h2, h3⟩ | ⟨j, e, h1, hj, he, h4⟩
  · exact (hk0 ((hf k).symm.trans h2)).elim
  · have hlt : j < es.size := by
      have := (List.getElem?_eq_some_iff.1 hj).1
      simpa using this
    have hes : (es.eraseIdxIfInBounds j).toList = es.toList.eraseIdx j := by
      unfold Array.eraseIdxIfInBounds
      rw [dif_pos hlt]
      simp
    refine ⟨{ w with heap := w.heap.setIfInBounds b (.map (es.eraseIdxIfInBounds j) clk) }, ?_, ?_, by omega, rfl, rfl, rfl, by simp, fun i hib => (heap_set hb).2 i hib⟩
    · have h1' : Instr.findNow (.int .i64) (.int .i64 k) es.toList 0 = some (some (j, e.val)) := by simpa using h1
      simp [Builtin.delete_, run_underlying hT, MapKept.run_getObj_map hb, MapKept.run_checkKey hK hk, MapKept.run_findKey hK h1', MapKept.run_setObj_map _ hb, Result.andThen]
    · refine ⟨_, _, (heap_set hb).1, ?_, ?_, ?_, ?_⟩
      · intro x hx
        rw [hes] at hx
        exact hi x ((List.eraseIdx_sublist _ _).subset hx)
      · rw [hes]
        exact (((List.eraseIdx_sublist _ _).map _).nodup hd)
      · intro q
        rw [hes, lk_erase k q es.toList j e hi hd hj he, hf q]
      · have : (es.eraseIdxIfInBounds j).size = es.size - 1 := by
          rw [← Array.length_toList, hes, List.length_eraseIdx]
          simp [hlt]
        omega
end
end Go.Proofs.Ythflfafenehofaa
