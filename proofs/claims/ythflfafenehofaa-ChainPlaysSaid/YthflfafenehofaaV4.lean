/-
  A row of nodes in one cell, and two nodes behind it: the laws, and the contracts at it.
-/
import Derived.Test.YthflfafenehofaaV3
import Derived.Test.YthflfafenehofaaW10
namespace Go.Proofs.Ythflfafenehofaa
open Go.RowKit Go.Shelf

/-- Nodes of the first numbers, each behind the last one, in one cell, with counts. -/
def RowC (nums : List Int) (L : List CN) (f : Nat → Int) : Prop :=
  ∀ (j : Nat) (n : CN), L[j]? = some n → n.prev = (j : Int) - 1 ∧ n.slot = j ∧ nums[j]? = some n.num ∧ n.cell = 0 ∧ n.count = f j

theorem RowC.nil (nums : List Int) (f : Nat → Int) : RowC nums [] f := fun j n h => by simp at h
theorem RowC.congr {nums : List Int} {L : List CN} {f g : Nat → Int} (h : RowC nums L f) (e : ∀ j, j < L.length → f j = g j) : RowC nums L g := fun j n hj => by
  obtain ⟨h1, h2, h3, h4, h5⟩ := h j n hj
  exact ⟨h1, h2, h3, h4, h5.trans (e j (List.getElem?_eq_some_iff.1 hj).1)⟩
theorem RowC.set {nums : List Int} {L : List CN} {f : Nat → Int} (h : RowC nums L f) {k : Nat} {p : CN} (hp : L[k]? = some p) (c : Int) : RowC nums (L.set k { p with count := c }) (fun j => if j = k then c else f j) := fun j n hj => by
  by_cases e : k = j
  · subst e
    rw [List.getElem?_set_self (List.getElem?_eq_some_iff.1 hp).1] at hj
    injection hj with hj
    subst hj
    obtain ⟨h1, h2, h3, h4, _⟩ := h _ _ hp
    exact ⟨h1, h2, h3, h4, by simp⟩
  · rw [List.getElem?_set_ne e] at hj
    obtain ⟨h1, h2, h3, h4, h5⟩ := h _ _ hj
    exact ⟨h1, h2, h3, h4, by simp [Ne.symm e, h5]⟩
theorem RowC.snoc {nums : List Int} {L : List CN} {f : Nat → Int} (h : RowC nums L f) {x : Int} (hx : nums[L.length]? = some x) (b : Nat) (g c : Int) : RowC nums (L ++ [⟨b, (L.length : Int) - 1, 0, x, L.length, g, c⟩]) (fun j => if j = L.length then c else f j) := fun j n hj => by
  by_cases e : j < L.length
  · rw [List.getElem?_append_left e] at hj
    obtain ⟨h1, h2, h3, h4, h5⟩ := h _ _ hj
    exact ⟨h1, h2, h3, h4, by simp [Nat.ne_of_lt e, h5]⟩
  · have hl := (List.getElem?_eq_some_iff.1 hj).1
    rw [List.length_append, List.length_singleton] at hl
    obtain rfl : j = L.length := by omega
    simp at hj
    subst hj
    simp [hx]
theorem RowC.le {nums : List Int} {L : List CN} {f : Nat → Int} (h : RowC nums L f) : L.length ≤ nums.length := by
  by_cases h0 : L.length = 0
  · omega
  · obtain ⟨n, hn⟩ : ∃ n, L[L.length - 1]? = some n := ⟨_, List.getElem?_eq_getElem (by omega)⟩
    obtain ⟨_, _, h3, _⟩ := h _ _ hn
    have := (List.getElem?_eq_some_iff.1 h3).1
    omega
theorem RowC.nums {nums : List Int} {L : List CN} {f : Nat → Int} (h : RowC nums L f) : L.map (·.num) = nums.take L.length := by
  apply List.ext_getElem?
  intro i
  rw [List.getElem?_map, List.getElem?_take]
  by_cases e : i < L.length
  · obtain ⟨n, hn⟩ : ∃ n, L[i]? = some n := ⟨_, List.getElem?_eq_getElem e⟩
    obtain ⟨_, _, h3, _⟩ := h _ _ hn
    rw [hn, if_pos e, h3]; rfl
  · rw [if_neg e, List.getElem?_eq_none (by omega)]; rfl

theorem cget_app (L : List CN) (tl : CS) (k : Nat) : cget (L.map some ++ tl) (k : Int) = if k < L.length then L[k]? else (tl[k - L.length]?).join := by
  unfold cget
  rw [if_pos (by omega), Int.toNat_natCast]
  by_cases e : k < L.length
  · rw [if_pos e, List.getElem?_append_left (by simpa using e), List.getElem?_map]
    cases L[k]? <;> rfl
  · rw [if_neg e, List.getElem?_append_right (by simp; omega), List.length_map]
theorem set_app (L : List CN) (tl : CS) (k : Nat) (hk : k < L.length) (q : CN) : (L.map some ++ tl).set k (some q) = (L.set k q).map some ++ tl := by
  rw [List.set_append_left _ _ (by simpa using hk), List.map_set]
theorem set_app_tl (L : List CN) (tl : CS) (k : Nat) (x : Option CN) : (L.map some ++ tl).set (L.length + k) x = L.map some ++ tl.set k x := by
  rw [List.set_append_right _ _ (by simp), List.length_map]
  congr 2
  omega
theorem cnt_app (L : List CN) (tl : CS) : cnt (L.map some ++ tl) = L.length + cnt tl := by
  have h := cnt_map L
  unfold cnt at h ⊢
  rw [List.filter_append, List.length_append, h]

/-- The row within a state. -/
theorem RowC.rowy {nums : List Int} {L : List CN} {f : Nat → Int} (h : RowC nums L f) (tl : CS) : Rowy (L.map some ++ tl) L := fun j n hj => by
  refine ⟨?_, (h j n hj).1⟩
  rw [cget_app, if_pos (List.getElem?_eq_some_iff.1 hj).1]
  exact hj

theorem rows_one {nums : List Int} {L : List CN} {f : Nat → Int} (h : RowC nums L f) (c : Nat) (hc : 0 < c) : rowsOf c (prs L) = (L.map (·.num)) :: List.replicate (c - 1) [] := by
  apply List.ext_getElem?
  intro i
  unfold prs
  by_cases hi : i < c
  · rw [rowsOf_get _ _ _ hi]
    have hcell : ∀ n ∈ L, n.cell = 0 := fun n hn => by
      obtain ⟨j, hj⟩ := List.getElem?_of_mem hn
      exact (h j n hj).2.2.2.1
    cases i with
    | zero =>
      rw [List.filter_eq_self.2 (fun p hp => by
        obtain ⟨n, hn, rfl⟩ := List.mem_map.1 hp
        simp [hcell n hn])]
      simp [List.map_map, Function.comp_def]
    | succ i =>
      rw [List.filter_eq_nil_iff.2 (fun p hp => by
        obtain ⟨n, hn, rfl⟩ := List.mem_map.1 hp
        have := hcell n hn
        simp only [this, beq_iff_eq]
        omega)]
      rw [List.getElem?_cons_succ, List.getElem?_replicate, if_pos (by omega)]
      rfl
  · rw [List.getElem?_eq_none (by rw [rowsOf_length]; omega), List.getElem?_eq_none (by simp; omega)]
theorem rows_sets {nums : List Int} {L : List CN} {f : Nat → Int} (h : RowC nums L f) : rowsOf 1 (prs L) = [L.map (·.num)] := by rw [rows_one h 1 (by omega)]; rfl
theorem rows_a {nums : List Int} {L : List CN} {f : Nat → Int} (h : RowC nums L f) (x : Int) : rowsOf 2 (prs L ++ [(1, x)]) = [L.map (·.num), [x]] := by rw [rowsOf_snoc _ _ _ _ (by omega), rows_one h 2 (by omega)]; rfl
theorem rows_b {nums : List Int} {L : List CN} {f : Nat → Int} (h : RowC nums L f) (y : Int) : rowsOf 1 (prs L ++ [(0, y)]) = [L.map (·.num) ++ [y]] := by rw [rowsOf_snoc _ _ _ _ (by omega), rows_one h 1 (by omega)]; rfl

/-- The last node's count; all others' are 1. -/
def lastc (N : Nat) (c : Int) : Nat → Int := fun j => if j + 1 = N then c else 1

theorem counts_app {nums : List Int} {L : List CN} {N : Nat} {c : Int} (hr : RowC nums L (lastc N c)) (hc : 0 ≤ c ∧ c ≤ 1000) {tl : CS} (ht : ∀ n : CN, some n ∈ tl → 0 ≤ n.count ∧ n.count ≤ 1) :
    ∀ (k : Int) (n : CN), cget (L.map some ++ tl) k = some n → 0 ≤ n.count ∧ n.count ≤ 4611686018427387904 := fun k n hk => by
  obtain ⟨h0, h1, h2⟩ := cget_some hk
  have hk' : cget (L.map some ++ tl) ((k.toNat : Nat) : Int) = some n := by rw [show ((k.toNat : Nat) : Int) = k from by omega]; exact hk
  rw [cget_app] at hk'
  split at hk'
  · obtain ⟨_, _, _, _, h5⟩ := hr _ n hk'
    rw [h5]; unfold lastc; split <;> omega
  · cases e : tl[k.toNat - L.length]? with
    | none => rw [e] at hk'; cases hk'
    | some o =>
      rw [e] at hk'
      have hk2 : o = some n := by simpa using hk'
      subst hk2
      have := ht n (List.mem_of_getElem? e)
      omega

theorem push_on {X : Nat → Prop} {W : World} {cb mb : Nat} {nums : List Int} {L : List CN} {N : Nat} {c : Int} {tl : CS} (hN : L.length = N) (h : IsChain X W cb mb (L.map some ++ tl)) (hr : RowC nums L (lastc N c)) (hc : 0 ≤ c ∧ c ≤ 1000) (hpos : 0 < N) (hl : N + tl.length ≤ 1000)
    (cell x s : Int) (hcell : 0 ≤ cell ∧ cell ≤ 1) :
    Calls Try.prog 10 #[.pointer (some ⟨cb, 0, none⟩), .int .i64 ((N : Int) - 1), .int .i64 cell, .int .i64 x, .agg #[.int .i64 s, .int .i64 0]] W fun e w' => e = .returned (.tuple #[.int .i64 ((N + tl.length : Nat) : Int), .bool true]) ∧
      ∃ (L' : List CN) (X' : Nat → Prop) (b : Nat), L'.length = N ∧ IsChain X' w' cb mb (L'.map some ++ (tl ++ [some ⟨b, (N : Int) - 1, cell, x, s, 0, 1⟩])) ∧ RowC nums L' (lastc N (c + 1)) ∧ Keep X W w' ∧ (∀ b, X' b → X b ∨ W.heap.size ≤ b) := by
  obtain ⟨p, hp⟩ : ∃ p, L[N - 1]? = some p := ⟨_, List.getElem?_eq_getElem (by omega)⟩
  obtain ⟨p1, p2, p3, p4, p5⟩ := hr _ p hp
  have hp6 : p.count = c := by rw [p5]; unfold lastc; rw [if_pos (by omega)]
  have hk : cget (L.map some ++ tl) ((N : Int) - 1) = some p := by
    rw [show (N : Int) - 1 = ((N - 1 : Nat) : Int) from by omega, cget_app, if_pos (by omega)]; exact hp
  have hlen : (L.map some ++ tl).length = N + tl.length := by rw [List.length_append, List.length_map, hN]
  refine (push_next h (by rw [hlen]; omega) ((N : Int) - 1) cell x s 0 hk (by omega) (by omega) (by omega)).mono ?_
  rintro e w' ⟨rfl, hch, hkk⟩
  rw [hlen] at *
  refine ⟨rfl, L.set (N - 1) { p with count := p.count + 1 }, fun k => X k ∨ k = W.heap.size + 1, W.heap.size + 1, by simp [hN], ?_, ?_, hkk, fun b hb => ?_⟩
  · rw [show ((N : Int) - 1).toNat = N - 1 from by omega, set_app _ _ _ (by omega), List.append_assoc] at hch
    exact hch
  · refine (hr.set hp _).congr fun j hj => ?_
    unfold lastc
    by_cases e : j = N - 1
    · rw [if_pos e, if_pos (by omega), hp6]
    · rw [if_neg e, if_neg (by omega), if_neg (by omega)]
  · rcases hb with hb | hb
    · exact .inl hb
    · exact .inr (by omega)

theorem drop_held {X : Nat → Prop} {W : World} {cb mb : Nat} {nums : List Int} {L : List CN} {N : Nat} {c : Int} {tl : CS} (hN : L.length = N) (h : IsChain X W cb mb (L.map some ++ tl)) (hr : RowC nums L (lastc N c)) (hc : 2 ≤ c ∧ c ≤ 1000) (hpos : 0 < N) (hl : N + tl.length ≤ 1000)
    (ht : ∀ n : CN, some n ∈ tl → 0 ≤ n.count ∧ n.count ≤ 1) :
    Calls Try.prog 11 #[.pointer (some ⟨cb, 0, none⟩), .int .i64 ((N : Int) - 1)] W fun e w' => ∃ p cap, e = .returned (.tuple #[.slice p 0 cap, .bool true]) ∧
      ∃ L' : List CN, L'.length = N ∧ IsChain X w' cb mb (L'.map some ++ tl) ∧ RowC nums L' (lastc N (c - 1)) ∧ Keep X W w' := by
  obtain ⟨p, hp⟩ : ∃ p, L[N - 1]? = some p := ⟨_, List.getElem?_eq_getElem (by omega)⟩
  obtain ⟨p1, p2, p3, p4, p5⟩ := hr _ p hp
  have hp6 : p.count = c := by rw [p5]; unfold lastc; rw [if_pos (by omega)]
  have hk : cget (L.map some ++ tl) ((N : Int) - 1) = some p := by
    rw [show (N : Int) - 1 = ((N - 1 : Nat) : Int) from by omega, cget_app, if_pos (by omega)]; exact hp
  have hct : cnt (L.map some ++ tl) ≤ 1000 := by
    have h1 := cnt_app L tl
    have h2 : cnt tl ≤ tl.length := List.length_filter_le _ _
    omega
  refine (drop_yes h _ hk (counts_app hr (by omega) ht) (by omega)).mono ?_
  rintro e w' ⟨vo, out, M', rfl, hd, hown, hch, hkeep⟩
  obtain ⟨rfl, rfl⟩ := Drops.uniq hd (Drops.held hk (by omega))
  obtain ⟨pp, cap, rfl⟩ : ∃ p cap, vo = .slice p 0 cap := by
    rcases own_refs (l := []) hown with ⟨rfl, _⟩ | ⟨g, cap, rfl, _⟩
    · exact ⟨_, _, rfl⟩
    · exact ⟨_, _, rfl⟩
  refine ⟨pp, cap, rfl, L.set (N - 1) { p with count := p.count - 1 }, by simp [hN], ?_, ?_, hkeep⟩
  · rw [show ((N : Int) - 1).toNat = N - 1 from by omega, set_app _ _ _ (by omega)] at hch
    exact hch
  · refine (hr.set hp _).congr fun j hj => ?_
    unfold lastc
    by_cases e : j = N - 1
    · rw [if_pos e, if_pos (by omega), hp6]
    · rw [if_neg e, if_neg (by omega), if_neg (by omega)]

theorem push_sh {X : Nat → Prop} {W : World} {cb mb : Nat} {nums : List Int} {L : List CN} {N : Nat} (hN : L.length = N) (h : IsChain X W cb mb (L.map some)) (hr : RowC nums L (lastc N 1)) (hl : N ≤ 100) (x : Int) :
    Calls Try.prog 10 #[.pointer (some ⟨cb, 0, none⟩), .int .i64 ((N : Int) - 1), .int .i64 0, .int .i64 x, .agg #[.int .i64 (N : Int), .int .i64 0]] W fun e w' => e = .returned (.tuple #[.int .i64 (N : Int), .bool true]) ∧
      ∃ (L' : List CN) (X' : Nat → Prop) (b : Nat), L'.length = N ∧ IsChain X' w' cb mb (L'.map some ++ [some ⟨b, (N : Int) - 1, 0, x, N, 0, 1⟩]) ∧ RowC nums L' (lastc N 2) ∧ Keep X W w' ∧ (∀ b, X' b → X b ∨ W.heap.size ≤ b) := by
  by_cases h0 : N = 0
  · subst h0
    obtain rfl := List.eq_nil_of_length_eq_zero hN
    refine (push_first h (by simp) (cget_neg _) x 0 0).mono ?_
    rintro e w' ⟨rfl, hch, hk⟩
    refine ⟨rfl, [], fun k => X k ∨ k = W.heap.size + 1, W.heap.size + 1, rfl, hch, RowC.nil _ _, hk, fun b hb => ?_⟩
    rcases hb with hb | hb
    · exact .inl hb
    · exact .inr (by omega)
  · have h' : IsChain X W cb mb (L.map some ++ []) := by rw [List.append_nil]; exact h
    refine (push_on hN h' hr (by omega) (by omega) (by simp; omega) 0 x N (by omega)).mono ?_
    rintro e w' ⟨rfl, L', X', b, h1, h2, h3, h4, h5⟩
    exact ⟨by simp, L', X', b, h1, h2, h3, h4, h5⟩

theorem join_sh {nums : List Int} {L : List CN} {N : Nat} (hN : L.length = N) (hr : RowC nums L (lastc N 1)) {x : Int} (hx : nums[N]? = some x) (b : Nat) :
    RowC nums (L ++ [⟨b, (N : Int) - 1, 0, x, N, 0, 1⟩]) (lastc (N + 1) 1) ∧ (L ++ [(⟨b, (N : Int) - 1, 0, x, N, 0, 1⟩ : CN)]).map some = L.map some ++ [some ⟨b, (N : Int) - 1, 0, x, N, 0, 1⟩] := by
  subst hN
  refine ⟨(hr.snoc hx b 0 1).congr fun j hj => ?_, by simp⟩
  unfold lastc
  split <;> split <;> first | rfl | (split <;> rfl)

theorem sets_on {X : Nat → Prop} {W : World} {cb mb : Nat} {nums : List Int} {L : List CN} {N : Nat} {f : Nat → Int} {tl : CS} (hN : L.length = N) (h : IsChain X W cb mb (L.map some ++ tl)) (hr : RowC nums L f) (hpos : 0 < N) (hl : N ≤ 100) :
    Calls Try.prog 13 #[.pointer (some ⟨cb, 0, none⟩), .int .i64 ((N : Int) - 1)] W fun e w' => ∃ v, e = .returned v ∧ IsRows (fun b => W.heap.size ≤ b) w' v [nums.take N] ∧ Below W.heap.size W w' := by
  obtain ⟨p, hp⟩ : ∃ p, L[N - 1]? = some p := ⟨_, List.getElem?_eq_getElem (by omega)⟩
  have hk : cget (L.map some ++ tl) ((N : Int) - 1) = some p := by
    rw [show (N : Int) - 1 = ((N - 1 : Nat) : Int) from by omega, cget_app, if_pos (by omega)]; exact hp
  have hcell : ∀ n ∈ L, n.cell = 0 := fun n hn => by
    obtain ⟨j, hj⟩ := List.getElem?_of_mem hn
    exact (hr j n hj).2.2.2.1
  have hP := (hr.rowy tl).path
  rw [hN] at hP
  have hp0 := hcell p (List.mem_of_getElem? hp)
  refine (sets_yes h _ p L.reverse hk hP (fun n hn => by have := hcell n (by simpa using hn); omega) 1 (by omega) (by omega) (by simp; omega)).mono ?_
  rintro e w' ⟨v, rfl, hv, hb⟩
  refine ⟨v, rfl, ?_, hb⟩
  have e2 := rows_sets hr
  rw [hr.nums, hN] at e2
  rw [setsS_eq _ _ (fun n hn => by have := hcell n (by simpa using hn); omega), List.reverse_reverse] at hv
  rw [← e2]
  exact hv

theorem path_tail {nums : List Int} {L : List CN} {N : Nat} {f : Nat → Int} {tl : CS} (hN : L.length = N) (hr : RowC nums L f) {k : Nat} {A : CN} (hA : tl[k]? = some (some A)) (hprev : A.prev = (N : Int) - 1) :
    cget (L.map some ++ tl) ((N + k : Nat) : Int) = some A ∧ Path (L.map some ++ tl) ((N + k : Nat) : Int) (A :: L.reverse) := by
  have hk : cget (L.map some ++ tl) ((N + k : Nat) : Int) = some A := by
    rw [cget_app, if_neg (by omega), show N + k - L.length = k from by omega, hA]; rfl
  have hP := (hr.rowy tl).path
  rw [hN] at hP
  exact ⟨hk, .cons hk (by rw [hprev]; exact hP)⟩

theorem sets_tail {X : Nat → Prop} {W : World} {cb mb : Nat} {nums : List Int} {L : List CN} {N : Nat} {f : Nat → Int} {tl : CS} (hN : L.length = N) (h : IsChain X W cb mb (L.map some ++ tl)) (hr : RowC nums L f) (hl : N ≤ 100) {k : Nat} {A : CN} (hA : tl[k]? = some (some A)) (hprev : A.prev = (N : Int) - 1)
    (c : Nat) (hc : A.cell = (c : Int)) (hc2 : c ≤ 1) :
    Calls Try.prog 13 #[.pointer (some ⟨cb, 0, none⟩), .int .i64 ((N + k : Nat) : Int)] W fun e w' => ∃ v, e = .returned v ∧ IsRows (fun b => W.heap.size ≤ b) w' v (rowsOf (c + 1) (prs L ++ [((c : Int), A.num)])) ∧ Below W.heap.size W w' := by
  obtain ⟨hk, hP⟩ := path_tail hN hr hA hprev
  have hcell : ∀ n ∈ A :: L.reverse, 0 ≤ n.cell ∧ n.cell ≤ A.cell := fun n hn => by
    rcases List.mem_cons.1 hn with rfl | hn
    · omega
    · obtain ⟨j, hj⟩ := List.getElem?_of_mem (show n ∈ L by simpa using hn)
      have := (hr j n hj).2.2.2.1
      omega
  refine (sets_yes h _ A _ hk hP hcell (c + 1) (by omega) (by omega) (by simp; omega)).mono ?_
  rintro e w' ⟨v, rfl, hv, hb⟩
  refine ⟨v, rfl, ?_, hb⟩
  rw [setsS_eq _ _ (fun n hn => (hcell n hn).1), List.reverse_cons, List.reverse_reverse, List.map_append, List.map_singleton, hc] at hv
  exact hv

theorem back_tail {X : Nat → Prop} {W : World} {cb mb : Nat} {nums : List Int} {L : List CN} {N : Nat} {f : Nat → Int} {tl : CS} (hN : L.length = N) (h : IsChain X W cb mb (L.map some ++ tl)) (hr : RowC nums L f) (hl : N ≤ 100) {k : Nat} {A : CN} (hA : tl[k]? = some (some A)) (hprev : A.prev = (N : Int) - 1) :
    Calls Try.prog 15 #[.pointer (some ⟨cb, 0, none⟩), .int .i64 ((N + k : Nat) : Int)] W fun e w' => ∃ p cap, e = .returned (.slice p (N + 1) cap) ∧ Below W.heap.size W w' := by
  obtain ⟨hk, hP⟩ := path_tail hN hr hA hprev
  have hlen : (A :: L.reverse).length = N + 1 := by simp [hN]
  refine (back_any h _ _ hP (by omega)).mono ?_
  rintro e w' ⟨vo, rfl, hown, hb⟩
  rw [hlen] at hown
  rcases hown.2 with ⟨_, h0⟩ | ⟨g, cap, cur, rfl, _⟩
  · omega
  · exact ⟨_, cap, rfl, hb⟩

theorem drop_a {X : Nat → Prop} {W : World} {cb mb : Nat} {nums : List Int} {L : List CN} {N : Nat} {A B : CN} (hN : L.length = N) (h : IsChain X W cb mb (L.map some ++ [some A, some B])) (hr : RowC nums L (lastc N 2)) (hpos : 0 < N) (hl : N ≤ 100) (hA : A.prev = (N : Int) - 1) (hcA : A.count = 1) (hcB : B.count = 1) :
    Calls Try.prog 11 #[.pointer (some ⟨cb, 0, none⟩), .int .i64 (N : Int)] W fun e w' => ∃ g cap, e = .returned (.tuple #[.slice (some ⟨g, 0, none⟩) 1 cap, .bool true]) ∧ g < w'.heap.size ∧ w'.cell? ⟨g, 0, none⟩ = some (.int .i64 A.slot) ∧ W.heap.size ≤ g ∧
      ∃ L' : List CN, L'.length = N ∧ IsChain X w' cb mb (L'.map some ++ [none, some B]) ∧ RowC nums L' (lastc N 1) ∧ Keep X W w' := by
  obtain ⟨p, hp⟩ : ∃ p, L[N - 1]? = some p := ⟨_, List.getElem?_eq_getElem (by omega)⟩
  obtain ⟨p1, p2, p3, p4, p5⟩ := hr _ p hp
  have hp6 : p.count = 2 := by rw [p5]; unfold lastc; rw [if_pos (by omega)]
  obtain ⟨hk, _⟩ := path_tail (tl := [some A, some B]) (k := 0) hN hr rfl hA
  rw [Nat.add_zero] at hk
  have hct : cnt (L.map some ++ [some A, some B]) ≤ 1000 := by
    have h1 := cnt_app L [some A, some B]
    have h2 : cnt [some A, some B] ≤ 2 := List.length_filter_le _ _
    omega
  refine (drop_yes h _ hk (counts_app hr (by omega) (fun n hn => by simp at hn; rcases hn with rfl | rfl <;> omega)) (by omega)).mono ?_
  rintro e w' ⟨vo, out, M', rfl, hd, hown, hch, hkeep⟩
  have e1 : (L.map some ++ [some A, some B]).set ((N : Int)).toNat none = L.map some ++ [none, some B] := by
    rw [Int.toNat_natCast]
    have := set_app_tl L [some A, some B] 0 none
    rw [hN] at this
    simpa using this
  have hk2 : cget (L.map some ++ [none, some B]) ((N : Int) - 1) = some p := by
    rw [show (N : Int) - 1 = ((N - 1 : Nat) : Int) from by omega, cget_app, if_pos (by omega)]; exact hp
  have hd2 : Drops (L.map some ++ [some A, some B]) (N : Int) [(A.slot, A.gen)] ((L.map some ++ [none, some B]).set ((N : Int) - 1).toNat (some { p with count := p.count - 1 })) := by
    refine .gone hk (by omega) ?_
    rw [e1, hA]
    exact .held hk2 (by omega)
  obtain ⟨rfl, rfl⟩ := Drops.uniq hd hd2
  rcases own_refs hown with ⟨_, h0⟩ | ⟨g, cap, rfl, hg, hgl, hcells⟩
  · cases h0
  · refine ⟨g, cap, rfl, hgl, (hcells 0 _ rfl).1, hg, L.set (N - 1) { p with count := p.count - 1 }, by simp [hN], ?_, ?_, hkeep⟩
    · rw [show ((N : Int) - 1).toNat = N - 1 from by omega, set_app _ _ _ (by omega)] at hch
      exact hch
    · refine (hr.set hp _).congr fun j hj => ?_
      unfold lastc
      by_cases e : j = N - 1
      · rw [if_pos e, if_pos (by omega), hp6]; rfl
      · rw [if_neg e, if_neg (by omega), if_neg (by omega)]

theorem drop_b {X : Nat → Prop} {W : World} {cb mb : Nat} {nums : List Int} {L : List CN} {N : Nat} {B : CN} (hN : L.length = N) (h : IsChain X W cb mb (L.map some ++ [none, some B])) (hr : RowC nums L (lastc N 1)) (hl : N ≤ 100) (hB : B.prev = (N : Int) - 1) (hcB : B.count = 1) :
    Calls Try.prog 11 #[.pointer (some ⟨cb, 0, none⟩), .int .i64 ((N + 1 : Nat) : Int)] W fun e w' => ∃ p cap M', e = .returned (.tuple #[.slice p (N + 1) cap, .bool true]) ∧ IsChain X w' cb mb M' ∧ cnt M' = 0 ∧ Keep X W w' := by
  obtain ⟨hk, _⟩ := path_tail (tl := [none, some B]) (k := 1) hN hr rfl hB
  have hct := cnt_app L [none, some B]
  have hc2 : cnt [none, some B] = 1 := rfl
  have e1 : (L.map some ++ [none, some B]).set (((N + 1 : Nat) : Int)).toNat none = L.map some ++ [none, none] := by
    rw [Int.toNat_natCast]
    have := set_app_tl L [none, some B] 1 none
    rw [hN] at this
    simpa using this
  have hc1 : ∀ n ∈ L, n.count ≤ 1 := fun n hn => by
    obtain ⟨j, hj⟩ := List.getElem?_of_mem hn
    rw [(hr j n hj).2.2.2.2]; unfold lastc; split <;> omega
  obtain ⟨M2, hd2, _, _, hcn⟩ := (hr.rowy [none, none]).drops hc1
  rw [hN] at hd2
  have hct2 := cnt_app L [none, none]
  have hc3 : cnt [none, none] = 0 := rfl
  refine (drop_yes h _ hk (counts_app hr (by omega) (fun n hn => by simp at hn; subst hn; omega)) (by omega)).mono ?_
  rintro e w' ⟨vo, out, M', rfl, hd, hown, hch, hkeep⟩
  have hd3 : Drops (L.map some ++ [none, some B]) ((N + 1 : Nat) : Int) ((B.slot, B.gen) :: L.reverse.map fun n => (n.slot, n.gen)) M2 := by
    refine .gone hk (by omega) ?_
    rw [e1, hB]
    exact hd2
  obtain ⟨rfl, rfl⟩ := Drops.uniq hd hd3
  have hlen : ((B.slot, B.gen) :: L.reverse.map fun n => (n.slot, n.gen)).length = N + 1 := by simp [hN]
  rcases own_refs hown with ⟨_, h0⟩ | ⟨g, cap, rfl, hg, hgl, hcells⟩
  · cases h0
  · exact ⟨_, cap, M', by rw [hlen], hch, by omega, hkeep⟩

theorem live_is {X : Nat → Prop} {W : World} {cb mb : Nat} {M : CS} {N : Nat} (h : IsChain X W cb mb M) (hN : cnt M = N) :
    Calls Try.prog 14 #[.pointer (some ⟨cb, 0, none⟩)] W fun e w' => e = .returned (.int .i64 (N : Int)) ∧ W = w' := by
  subst hN
  exact live_any h

end Go.Proofs.Ythflfafenehofaa
