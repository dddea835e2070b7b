/-
  The walks of the document's chain: Is, Live, Keep, Count.
-/
import Derived.Test.YthflfafenehofaaM1
namespace Go.Proofs.Ythflfafenehofaa
open Go.RowKit Go.Shelf

attribute [local go_sem] Oper.semAt_some

/-- Is a node there? -/
def isR (R : List RN) (k : Int) : Bool := if 0 ≤ k then (match R[k.toNat]? with | some r => !r.gone | none => false) else false

set_option maxHeartbeats 1000000 in
theorem ris_any {B : Nat} {W : World} {m : Nat} {v : Value} {R : List RN} (h : IsRef B W m v R) (k : Int) :
    Calls Try.prog 17 #[.pointer (some ⟨m, 0, none⟩), .int .i64 k] W fun e w' => e = .returned (.bool (isR R k)) ∧ W = w' := by
  obtain ⟨c1, c2, c3, hc⟩ := h.cells
  clear h
  by_cases h0 : 0 ≤ k
  · obtain ⟨j, rfl⟩ : ∃ j : Nat, k = (j : Int) := ⟨k.toNat, by omega⟩
    rcases hc with ⟨rfl, rfl⟩ | ⟨g, cap, rfl, _, hg, _, _, hcell⟩
    · have e : isR [] (j : Int) = false := by simp [isR]
      rw [e]
      go_enter Try.func17, Try.ntmps17
      go_wp2_with fail
      go_ret
      exact ⟨rfl, rfl⟩
    · by_cases hj : j < R.length
      · obtain ⟨r, hr⟩ : ∃ r, R[j]? = some r := ⟨_, List.getElem?_eq_getElem hj⟩
        obtain ⟨d0, d1, d2, d3, d4, d5, d6⟩ := hcell j r hr
        have e : isR R (j : Int) = !r.gone := by simp [isR, hr]
        rw [e]
        clear hcell hr
        go_enter Try.func17, Try.ntmps17
        go_wp2_with fail
        go_ret
        exact ⟨rfl, rfl⟩
      · have e : isR R (j : Int) = false := by simp [isR, List.getElem?_eq_none (Nat.le_of_not_lt hj)]
        rw [e]
        clear hcell
        go_enter Try.func17, Try.ntmps17
        go_wp2_with fail
        go_ret
        exact ⟨rfl, rfl⟩
  · have e : isR R k = false := by simp [isR, h0]
    rw [e]
    clear hc
    go_enter Try.func17, Try.ntmps17
    go_wp2_with fail
    go_ret
    exact ⟨rfl, rfl⟩

/-- How many are there. -/
def liveR (R : List RN) : Nat := (R.filter fun r => !r.gone).length
/-- How many that are there come behind a node. -/
def kidsR (R : List RN) (k : Int) : Nat := (R.filter fun r => !r.gone && r.prev == k).length
theorem liveR_take {R : List RN} {i : Nat} {r : RN} (h : R[i]? = some r) : liveR (R.take (i + 1)) = liveR (R.take i) + if r.gone then 0 else 1 := by
  have hl := (List.getElem?_eq_some_iff.1 h).1
  have e : R.take (i + 1) = R.take i ++ [r] := by
    rw [List.take_add_one, h]; rfl
  rw [e]
  unfold liveR
  rw [List.filter_append, List.length_append]
  cases hg : r.gone <;> simp [hg]
theorem kidsR_take {R : List RN} {i : Nat} {r : RN} (k : Int) (h : R[i]? = some r) : kidsR (R.take (i + 1)) k = kidsR (R.take i) k + if r.gone = false ∧ r.prev = k then 1 else 0 := by
  have e : R.take (i + 1) = R.take i ++ [r] := by
    rw [List.take_add_one, h]; rfl
  rw [e]
  unfold kidsR
  rw [List.filter_append, List.length_append]
  by_cases hg : r.gone = false ∧ r.prev = k
  · rw [if_pos hg]; simp [hg.1, hg.2]
  · rw [if_neg hg]
    cases hg1 : r.gone
    · have : ¬ r.prev = k := fun e => hg ⟨hg1, e⟩
      simp [hg1, this]
    · simp [hg1]
theorem liveR_le (R : List RN) : liveR R ≤ R.length := List.length_filter_le _ _
theorem kidsR_le (R : List RN) (k : Int) : kidsR R k ≤ R.length := List.length_filter_le _ _

set_option maxHeartbeats 1000000 in
theorem rlive_any {B : Nat} {W : World} {m : Nat} {v : Value} {R : List RN} (h : IsRef B W m v R) (hl : R.length ≤ 1000) :
    Calls Try.prog 21 #[.pointer (some ⟨m, 0, none⟩)] W fun e w' => e = .returned (.int .i64 (liveR R : Nat)) ∧ W = w' := by
  obtain ⟨c1, c2, c3, hc⟩ := h.cells
  clear h
  have HC := Lib.hid hc
  clear hc
  go_enter Try.func21, Try.ntmps21
  go_wp2_with fail
  go_loopw [3, 4] (fun vn vi wr => ∃ i : Nat, i ≤ R.length ∧ vi = .int .i64 (i : Int) ∧ vn = .int .i64 (liveR (R.take i) : Nat) ∧ wr = W) (fun _ vi _ => R.length - (intOf vi).toNat)
  case atStart => exact ⟨0, Nat.zero_le _, rfl, rfl, rfl⟩
  case round =>
    obtain ⟨i, hi, rfl, rfl, rfl⟩ := hrel
    by_cases hlt : i < R.length
    · obtain ⟨r, hr⟩ : ∃ r, R[i]? = some r := ⟨_, List.getElem?_eq_getElem hlt⟩
      have hs := liveR_take hr
      have hle := liveR_le (R.take i)
      rw [List.length_take] at hle
      rcases HC.out with ⟨_, e⟩ | ⟨g, cap, rfl, _, hg, _, _, hcell⟩
      · subst e; simp at hlt
      · obtain ⟨d0, d1, d2, d3, d4, d5, d6⟩ := hcell i r hr
        have HS := Lib.hid hs
        clear hs hcell hr
        cases hgone : r.gone
        · rw [hgone] at d6
          have hb : ((liveR (R.take i) : Nat) : Int) + 1 ≤ 2000 := by omega
          go_wp2_with fail
          go_roundw
          case rel => exact ⟨i + 1, by omega, by simp, by rw [HS.out, hgone]; simp, by trivial⟩
          case measure => simp only [intOf]; omega
        · rw [hgone] at d6
          go_wp2_with fail
          go_roundw
          case rel => exact ⟨i + 1, by omega, by simp, by rw [HS.out, hgone]; simp, by trivial⟩
          case measure => simp only [intOf]; omega
    · obtain rfl : i = R.length := by omega
      have e : R.take R.length = R := List.take_length
      rw [e]
      rcases HC.out with ⟨rfl, rfl⟩ | ⟨g, cap, rfl, _, hg, _, _, hcell⟩
      · clear e
        go_wp2_with fail
        go_ret
        exact ⟨rfl, rfl⟩
      · clear e hcell
        go_wp2_with fail
        go_ret
        exact ⟨rfl, rfl⟩

/-- A node's count, as the document has it. -/
def cntR (R : List RN) (k : Int) : Int := if isR R k then (match R[k.toNat]? with | some r => r.kept | none => 0) + kidsR R k else 0

set_option maxHeartbeats 1000000 in
theorem rcount_any {B : Nat} {W : World} {m : Nat} {v : Value} {R : List RN} (h : IsRef B W m v R) (hl : R.length ≤ 1000) (k : Int) (hk : ∀ (j : Nat) (r : RN), R[j]? = some r → -100000 ≤ r.kept ∧ r.kept ≤ 100000) :
    Calls Try.prog 31 #[.pointer (some ⟨m, 0, none⟩), .int .i64 k] W fun e w' => e = .returned (.int .i64 (cntR R k)) ∧ W = w' := by
  cases hi : isR R k with
  | false =>
    have e : cntR R k = 0 := by simp [cntR, hi]
    rw [e]
    go_enter Try.func31, Try.ntmps31
    go_wp2_with (go_at_call 17; refine (ris_any h k).mono ?_; rintro e w1 ⟨rfl, rfl⟩; rw [hi])
    go_ret
    exact ⟨rfl, rfl⟩
  | true =>
    obtain ⟨j, rfl, r, hr, hg⟩ : ∃ j : Nat, k = (j : Int) ∧ ∃ r, R[j]? = some r ∧ r.gone = false := by
      unfold isR at hi
      split at hi
      · refine ⟨k.toNat, by omega, ?_⟩
        cases e : R[k.toNat]? with
        | none => rw [e] at hi; cases hi
        | some r => rw [e] at hi; exact ⟨r, rfl, by simpa using hi⟩
      · cases hi
    have e : cntR R (j : Int) = r.kept + kidsR R j := by
      unfold cntR
      rw [if_pos hi, Int.toNat_natCast, hr]
    rw [e]
    obtain ⟨hk1, hk2⟩ := hk j r hr
    obtain ⟨c1, c2, c3, hc⟩ := h.cells
    rcases hc with ⟨_, e⟩ | ⟨g, cap, rfl, _, hgl, _, _, hcell⟩
    · subst e; simp at hr
    have hjl := (List.getElem?_eq_some_iff.1 hr).1
    have d5 := (hcell j r hr).2.2.2.2.2.1
    have HC := Lib.hid hcell
    clear hcell e hk hr
    go_enter Try.func31, Try.ntmps31
    go_wp2_with (go_at_call 17; refine (ris_any h _).mono ?_; rintro e w1 ⟨rfl, rfl⟩; rw [hi])
    clear h hi
    go_loopw [6, 7] (fun vn vi wr => ∃ i : Nat, i ≤ R.length ∧ vi = .int .i64 (i : Int) ∧ vn = .int .i64 (r.kept + (kidsR (R.take i) j : Nat)) ∧ wr = W) (fun _ vi _ => R.length - (intOf vi).toNat)
    case atStart => exact ⟨0, Nat.zero_le _, rfl, by simp [kidsR], rfl⟩
    case round =>
      obtain ⟨i, hi, rfl, rfl, rfl⟩ := hrel
      have hle := kidsR_le (R.take i) j
      rw [List.length_take] at hle
      by_cases hlt : i < R.length
      · obtain ⟨q, hq⟩ : ∃ q, R[i]? = some q := ⟨_, List.getElem?_eq_getElem hlt⟩
        have hs := kidsR_take (j : Int) hq
        obtain ⟨f0, f1, f2, f3, f4, f5, f6⟩ := HC.out i q hq
        have HS := Lib.hid hs
        clear hs hq
        cases hgone : q.gone
        · rw [hgone] at f6
          by_cases hp : q.prev = (j : Int)
          · rw [hp] at f0
            go_wp2_with fail
            go_roundw
            case rel => exact ⟨i + 1, by omega, by simp, by rw [HS.out, if_pos ⟨hgone, hp⟩]; simp; omega, by trivial⟩
            case measure => simp only [intOf]; omega
          · go_wp2_with fail
            go_roundw
            case rel => exact ⟨i + 1, by omega, by simp, by rw [HS.out, if_neg (fun h => hp h.2)]; simp, by trivial⟩
            case measure => simp only [intOf]; omega
        · rw [hgone] at f6
          go_wp2_with fail
          go_roundw
          case rel => exact ⟨i + 1, by omega, by simp, by rw [HS.out, if_neg (fun h => by rw [hgone] at h; cases h.1)]; simp, by trivial⟩
          case measure => simp only [intOf]; omega
      · obtain rfl : i = R.length := by omega
        have e : R.take R.length = R := List.take_length
        rw [e]
        clear e
        go_wp2_with fail
        go_ret
        exact ⟨rfl, rfl⟩

set_option maxHeartbeats 1000000 in
theorem rkeep_any {B : Nat} {W : World} {m : Nat} {v : Value} {R : List RN} (h : IsRef B W m v R) (k : Int) (hk : ∀ (j : Nat) (r : RN), R[j]? = some r → -100000 ≤ r.kept ∧ r.kept ≤ 100000) :
    Calls Try.prog 27 #[.pointer (some ⟨m, 0, none⟩), .int .i64 k] W fun e w' => (isR R k = false ∧ e = .returned (.bool false) ∧ W = w') ∨
      (∃ (j : Nat) (r : RN), k = (j : Int) ∧ R[j]? = some r ∧ r.gone = false ∧ e = .returned (.bool true) ∧ IsRef B w' m v (R.set j { r with kept := r.kept + 1 }) ∧ Keep (YR m v) W w') := by
  cases hi : isR R k with
  | false =>
    go_enter Try.func27, Try.ntmps27
    go_wp2_with (go_at_call 17; refine (ris_any h k).mono ?_; rintro e w1 ⟨rfl, rfl⟩; rw [hi])
    go_ret
    exact .inl ⟨by trivial, rfl, rfl⟩
  | true =>
    obtain ⟨j, rfl, r, hr, hg⟩ : ∃ j : Nat, k = (j : Int) ∧ ∃ r, R[j]? = some r ∧ r.gone = false := by
      unfold isR at hi
      split at hi
      · refine ⟨k.toNat, by omega, ?_⟩
        cases e : R[k.toNat]? with
        | none => rw [e] at hi; cases hi
        | some r => rw [e] at hi; exact ⟨r, rfl, by simpa using hi⟩
      · cases hi
    obtain ⟨hk1, hk2⟩ := hk j r hr
    obtain ⟨c1, c2, c3, hc⟩ := h.cells
    rcases hc with ⟨_, e⟩ | ⟨g, cap, rfl, _, hgl, _, hfz, hcell⟩
    · subst e; simp at hr
    have hjl := (List.getElem?_eq_some_iff.1 hr).1
    have d5 := (hcell j r hr).2.2.2.2.2.1
    have hnew := h.setKept rfl hr (r.kept + 1)
    have hkeep : Keep (YR m (.slice (some ⟨g, 0, none⟩) R.length cap)) W (W.setCell ⟨g, j * 7 + 5, none⟩ (.int .i64 (r.kept + 1))) := (Keep.refl _ W).setCell (p := ⟨g, j * 7 + 5, none⟩) (.inl (.inr rfl)) _
    have hfr := hfz (j * 7 + 5)
    have HH := Lib.hid (And.intro hr hg)
    clear hcell hk hr hg hfz
    go_enter Try.func27, Try.ntmps27
    go_wp2_with (go_at_call 17; refine (ris_any h _).mono ?_; rintro e w1 ⟨rfl, rfl⟩; rw [hi])
    go_ret
    exact .inr ⟨j, r, by first | rfl | trivial, HH.out.1, HH.out.2, by first | rfl | trivial, hnew, hkeep⟩

end Go.Proofs.Ythflfafenehofaa
