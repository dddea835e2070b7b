/-
  Plain laws: the chain and the document's chain go on alike.
-/
import Derived.Test.YthflfafenehofaaM3
import Derived.Test.YthflfafenehofaaP2
namespace Go.Proofs.Ythflfafenehofaa

theorem kidsR_nil (k : Int) : kidsR [] k = 0 := rfl
theorem kidsR_snoc (R : List RN) (q : RN) (k : Int) : kidsR (R ++ [q]) k = kidsR R k + if q.gone = false ∧ q.prev = k then 1 else 0 := by
  have h := kidsR_take (R := R ++ [q]) (i := R.length) (r := q) k (by simp)
  rw [List.take_of_length_le (by simp), List.take_append_of_le_length (Nat.le_refl _), List.take_length] at h
  exact h
theorem kidsR_kept : ∀ (R : List RN) (j : Nat) (r : RN) (x k : Int), R[j]? = some r → kidsR (R.set j { r with kept := x }) k = kidsR R k
  | [], j, r, x, k, h => by simp at h
  | a :: R, 0, r, x, k, h => by
    obtain rfl : a = r := by simpa using h
    simp [kidsR, List.filter_cons]
    split <;> simp
  | a :: R, j + 1, r, x, k, h => by
    have := kidsR_kept R j r x k (by simpa using h)
    unfold kidsR at this ⊢
    rw [List.set_cons_succ, List.filter_cons, List.filter_cons]
    split <;> simp [this]
theorem kidsR_gone : ∀ (R : List RN) (j : Nat) (r : RN) (k : Int), R[j]? = some r → r.gone = false → kidsR (R.set j { r with gone := true }) k + (if r.prev = k then 1 else 0) = kidsR R k
  | [], j, r, k, h, _ => by simp at h
  | a :: R, 0, r, k, h, hg => by
    obtain rfl : a = r := by simpa using h
    unfold kidsR
    rw [List.set_cons_zero, List.filter_cons, List.filter_cons]
    by_cases e : a.prev = k
    · simp [e, hg]
    · simp [e]
  | a :: R, j + 1, r, k, h, hg => by
    have := kidsR_gone R j r k (by simpa using h) hg
    unfold kidsR at this ⊢
    rw [List.set_cons_succ, List.filter_cons, List.filter_cons]
    split
    · rw [List.length_cons, List.length_cons]; omega
    · exact this
theorem liveR_snoc (R : List RN) (q : RN) : liveR (R ++ [q]) = liveR R + if q.gone then 0 else 1 := by
  have h := liveR_take (R := R ++ [q]) (i := R.length) (r := q) (by simp)
  rw [List.take_of_length_le (by simp), List.take_append_of_le_length (Nat.le_refl _), List.take_length] at h
  exact h

/-- Both are alike; but a node d's count is one more than it is to be. -/
structure Sim (M : CS) (R : List RN) (d : Int) : Prop where
  len : M.length = R.length
  node : ∀ (j : Nat) (r : RN), R[j]? = some r → r.gone = false → ∃ n : CN, M[j]? = some (some n) ∧ n.prev = r.prev ∧ n.cell = r.cell ∧ n.num = r.num ∧ n.slot = r.slot ∧ n.gen = r.gen ∧ n.count = r.kept + kidsR R j + if (j : Int) = d then 1 else 0
  gone : ∀ (j : Nat) (r : RN), R[j]? = some r → r.gone = true → M[j]? = some none ∧ r.kept = 0
  kept : ∀ (j : Nat) (r : RN), R[j]? = some r → 0 ≤ r.kept
  pos : ∀ (j : Nat) (r : RN), R[j]? = some r → r.gone = false → (j : Int) ≠ d → 0 < r.kept + kidsR R j
  prev : ∀ (j : Nat) (r : RN), R[j]? = some r → r.prev = -1 ∨ ∃ (i : Nat) (p : RN), r.prev = (i : Int) ∧ i < j ∧ R[i]? = some p ∧ (r.gone = false → p.gone = false) ∧ p.cell ≤ r.cell
  cell : ∀ (j : Nat) (r : RN), R[j]? = some r → 0 ≤ r.cell ∧ r.cell ≤ 5
  alive : ∀ (j : Nat), (j : Int) = d → ∃ r, R[j]? = some r ∧ r.gone = false

theorem Sim.start : Sim [] [] (-1) :=
  ⟨rfl, fun j r h => by simp at h, fun j r h => by simp at h, fun j r h => by simp at h, fun j r h => by simp at h, fun j r h => by simp at h, fun j r h => by simp at h, fun j h => by omega⟩

theorem cget_nat (M : CS) (j : Nat) : cget M (j : Int) = (M[j]?).join := by unfold cget; rw [if_pos (by omega), Int.toNat_natCast]
theorem set_get {α : Type} {R : List α} {j i : Nat} {q r : α} (h : (R.set j q)[i]? = some r) : (i = j ∧ r = q ∧ j < R.length) ∨ (i ≠ j ∧ R[i]? = some r) := by
  by_cases e : j = i
  · subst e
    by_cases hl : j < R.length
    · rw [List.getElem?_set_self hl] at h
      injection h with h
      exact .inl ⟨rfl, h.symm, hl⟩
    · rw [List.getElem?_eq_none (by simp; omega)] at h; cases h
  · rw [List.getElem?_set_ne e] at h
    exact .inr ⟨fun e2 => e e2.symm, h⟩

theorem sim_drop : ∀ (N : Nat) (d : Int) (M : CS) (R : List RN), d < N → -1 ≤ d → Sim M R d → ∃ out M' R', Drops M d out M' ∧ DropsR R d out R' ∧ Sim M' R' (-1) ∧ R'.length = R.length ∧ cnt M' + out.length = cnt M := by
  intro N
  induction N with
  | zero =>
    intro d M R h1 h2 hs
    obtain rfl : d = -1 := by omega
    exact ⟨[], M, R, .stop (cget_neg M), .stop (.inl (by omega)), hs, rfl, rfl⟩
  | succ N ih =>
    intro d M R h1 h2 hs
    by_cases hd : d = -1
    · subst hd
      exact ⟨[], M, R, .stop (cget_neg M), .stop (.inl (by omega)), hs, rfl, rfl⟩
    obtain ⟨j, rfl⟩ : ∃ j : Nat, d = (j : Int) := ⟨d.toNat, by omega⟩
    obtain ⟨r, hr, hg⟩ := hs.alive j rfl
    have hjl := (List.getElem?_eq_some_iff.1 hr).1
    obtain ⟨n, hn, e1, e2, e3, e4, e5, e6⟩ := hs.node j r hr hg
    rw [if_pos rfl] at e6
    have hcg : cget M (j : Int) = some n := by rw [cget_nat, hn]; rfl
    have hcr : cntR R (j : Int) = r.kept + kidsR R j := by
      unfold cntR
      rw [if_pos (by simp [isR, hr, hg]), Int.toNat_natCast, hr]
    have hk0 := hs.kept j r hr
    by_cases hc : 0 < cntR R (j : Int)
    · -- it is held
      refine ⟨[], M.set j (some { n with count := n.count - 1 }), R, Drops.held hcg (by omega), .stop (.inr hc), ⟨by rw [List.length_set]; exact hs.len, fun i q hq hqg => ?_, fun i q hq hqg => ?_, hs.kept, fun i q hq hqg hne => ?_, hs.prev, hs.cell, fun i h => by omega⟩, rfl, ?_⟩
      · obtain ⟨n', hn', f1, f2, f3, f4, f5, f6⟩ := hs.node i q hq hqg
        by_cases e : i = j
        · subst e
          rw [hn] at hn'; injection hn' with hn'; injection hn' with hn'; subst hn'
          rw [hr] at hq; injection hq with hq; subst hq
          exact ⟨_, List.getElem?_set_self (by rw [hs.len]; exact hjl), e1, e2, e3, e4, e5, by rw [if_neg (by omega)]; dsimp only; omega⟩
        · rw [if_neg (by omega)] at f6
          exact ⟨n', by rw [List.getElem?_set_ne (fun h => e h.symm)]; exact hn', f1, f2, f3, f4, f5, by rw [if_neg (by omega)]; exact f6⟩
      · obtain ⟨f1, f2⟩ := hs.gone i q hq hqg
        have e : i ≠ j := fun e => by subst e; rw [hr] at hq; injection hq with hq; subst hq; rw [hg] at hqg; cases hqg
        exact ⟨by rw [List.getElem?_set_ne (fun h => e h.symm)]; exact f1, f2⟩
      · by_cases e : i = j
        · subst e
          rw [hr] at hq; injection hq with hq; subst hq
          omega
        · exact hs.pos i q hq hqg (by omega)
      · have := cnt_set_some M j n { n with count := n.count - 1 } hn
        simp [this]
    · -- it goes
      have hkz : r.kept = 0 := by omega
      have hkids : kidsR R j = 0 := by omega
      have hone : n.count = 1 := by omega
      have hkg := fun k => kidsR_gone R j r k hr hg
      have hnokid : ∀ (i : Nat) (q : RN), R[i]? = some q → q.gone = false → q.prev ≠ (j : Int) := fun i q hq hqg hp => by
        have : q ∈ R.filter fun r => !r.gone && r.prev == (j : Int) := List.mem_filter.2 ⟨List.mem_of_getElem? hq, by simp [hqg, hp]⟩
        have h0 := List.eq_nil_of_length_eq_zero hkids
        rw [h0] at this; cases this
      have hrp := hs.prev j r hr
      have hpd : -1 ≤ r.prev ∧ r.prev < (j : Int) := by
        rcases hrp with h | ⟨i, p, h, hij, _⟩ <;> omega
      have hsim : Sim (M.set j none) (R.set j { r with gone := true }) r.prev := by
        refine ⟨by rw [List.length_set, List.length_set]; exact hs.len, fun i q hq hqg => ?_, fun i q hq hqg => ?_, fun i q hq => ?_, fun i q hq hqg hne => ?_, fun i q hq => ?_, fun i q hq => ?_, fun i hi => ?_⟩
        · rcases set_get hq with ⟨rfl, rfl, _⟩ | ⟨hij, hq'⟩
          · cases hqg
          · obtain ⟨n', hn', f1, f2, f3, f4, f5, f6⟩ := hs.node i q hq' hqg
            rw [if_neg (by omega)] at f6
            have := hkg (i : Int)
            refine ⟨n', by rw [List.getElem?_set_ne (fun h => hij h.symm)]; exact hn', f1, f2, f3, f4, f5, ?_⟩
            by_cases e : (i : Int) = r.prev
            · rw [if_pos e]; rw [if_pos e.symm] at this; omega
            · rw [if_neg e]; rw [if_neg (fun h => e h.symm)] at this; omega
        · rcases set_get hq with ⟨rfl, rfl, _⟩ | ⟨hij, hq'⟩
          · exact ⟨List.getElem?_set_self (by rw [hs.len]; exact hjl), hkz⟩
          · obtain ⟨f1, f2⟩ := hs.gone i q hq' hqg
            exact ⟨by rw [List.getElem?_set_ne (fun h => hij h.symm)]; exact f1, f2⟩
        · rcases set_get hq with ⟨rfl, rfl, _⟩ | ⟨hij, hq'⟩
          · exact hk0
          · exact hs.kept i q hq'
        · rcases set_get hq with ⟨rfl, rfl, _⟩ | ⟨hij, hq'⟩
          · cases hqg
          · have h3 := hs.pos i q hq' hqg (by omega)
            have := hkg (i : Int)
            rw [if_neg (fun h => hne h.symm)] at this
            omega
        · have key : ∀ (i0 : Nat) (q0 : RN), R[i0]? = some q0 → (i0 = j → q0.gone = false) → ∀ q1 : RN, q1.prev = q0.prev → q1.cell = q0.cell → (q1.gone = false → q0.gone = false) → q1.prev = -1 ∨ ∃ (i : Nat) (p : RN), q1.prev = (i : Int) ∧ i < i0 ∧ (R.set j { r with gone := true })[i]? = some p ∧ (q1.gone = false → p.gone = false) ∧ p.cell ≤ q1.cell := by
            intro i0 q0 hq0 _ q1 c1 c2 c3
            rcases hs.prev i0 q0 hq0 with h | ⟨i2, p, h, hlt, hp, hpg, hpc⟩
            · exact .inl (c1.trans h)
            · by_cases e : i2 = j
              · subst e
                rw [hr] at hp; injection hp with hp; subst hp
                refine .inr ⟨i2, { r with gone := true }, c1.trans h, hlt, List.getElem?_set_self hjl, fun hg1 => ?_, by rw [c2]; exact hpc⟩
                exact absurd h (hnokid i0 q0 hq0 (c3 hg1))
              · exact .inr ⟨i2, p, c1.trans h, hlt, by rw [List.getElem?_set_ne (fun h => e h.symm)]; exact hp, fun hg1 => hpg (c3 hg1), by rw [c2]; exact hpc⟩
          rcases set_get hq with ⟨rfl, rfl, _⟩ | ⟨hij, hq'⟩
          · exact key i r hr (fun _ => hg) _ rfl rfl (fun h => by cases h)
          · exact key i q hq' (fun h => absurd h hij) _ rfl rfl (fun h => h)
        · rcases set_get hq with ⟨rfl, rfl, _⟩ | ⟨hij, hq'⟩
          · exact hs.cell _ r hr
          · exact hs.cell i q hq'
        · rcases hrp with h | ⟨i2, p, h, hlt, hp, hpg, _⟩
          · omega
          · obtain rfl : i = i2 := by omega
            exact ⟨p, by rw [List.getElem?_set_ne (by omega)]; exact hp, hpg hg⟩
      obtain ⟨out, M', R', g1, g2, g3, g4, g5⟩ := ih r.prev _ _ (by omega) hpd.1 hsim
      refine ⟨(r.slot, r.gen) :: out, M', R', ?_, .gone hr (by omega) g2, g3, by rw [g4, List.length_set], ?_⟩
      · have h1 : Drops M (j : Int) ((n.slot, n.gen) :: out) M' := Drops.gone hcg (by omega) (by rw [Int.toNat_natCast, e1]; exact g1)
        rw [e4, e5] at h1
        exact h1
      · have := cnt_set_none M j n hn
        simp only [List.length_cons]
        omega

/-! ### what both tell -/
section
variable {M : CS} {R : List RN}
theorem Sim.get (h : Sim M R (-1)) (k : Int) : (isR R k = false ∧ cget M k = none) ∨ ∃ (j : Nat) (r : RN) (n : CN), k = (j : Int) ∧ R[j]? = some r ∧ r.gone = false ∧ isR R k = true ∧ cget M k = some n ∧ n.prev = r.prev ∧ n.cell = r.cell ∧ n.num = r.num ∧ n.slot = r.slot ∧ n.gen = r.gen ∧ n.count = r.kept + kidsR R j := by
  by_cases h0 : 0 ≤ k
  · obtain ⟨j, rfl⟩ : ∃ j : Nat, k = (j : Int) := ⟨k.toNat, by omega⟩
    by_cases hj : j < R.length
    · obtain ⟨r, hr⟩ : ∃ r, R[j]? = some r := ⟨_, List.getElem?_eq_getElem hj⟩
      cases hg : r.gone
      · obtain ⟨n, hn, e1, e2, e3, e4, e5, e6⟩ := h.node j r hr hg
        rw [if_neg (by omega)] at e6
        exact .inr ⟨j, r, n, rfl, hr, hg, by simp [isR, hr, hg], by rw [cget_nat, hn]; rfl, e1, e2, e3, e4, e5, by omega⟩
      · obtain ⟨hn, _⟩ := h.gone j r hr hg
        exact .inl ⟨by simp [isR, hr, hg], by rw [cget_nat, hn]; rfl⟩
    · exact .inl ⟨by simp [isR, List.getElem?_eq_none (Nat.le_of_not_lt hj)], cget_new _ _ (by rw [h.len]; omega)⟩
  · exact .inl ⟨by simp [isR, h0], by unfold cget; rw [if_neg h0]⟩
theorem Sim.count (h : Sim M R (-1)) (k : Int) : cntS M k = cntR R k := by
  rcases h.get k with ⟨h1, h2⟩ | ⟨j, r, n, rfl, hr, hg, h1, h2, _, _, _, _, _, h3⟩
  · unfold cntS cntR
    rw [h2, h1]; rfl
  · unfold cntS cntR
    rw [h2, if_pos h1, Int.toNat_natCast, hr]
    exact h3
theorem sim_live : ∀ (M : CS) (R : List RN), M.length = R.length → (∀ (j : Nat) (r : RN), R[j]? = some r → ((∃ n, M[j]? = some (some n)) ↔ r.gone = false)) → cnt M = liveR R
  | [], [], _, _ => rfl
  | [], _ :: _, h, _ => by simp at h
  | _ :: _, [], h, _ => by simp at h
  | a :: M, b :: R, h, hh => by
    have ih := sim_live M R (by simpa using h) (fun j r hj => by simpa using hh (j + 1) r (by simpa using hj))
    have h0 := hh 0 b rfl
    unfold cnt liveR at ih ⊢
    rw [List.filter_cons, List.filter_cons]
    cases a with
    | none =>
      have : b.gone = true := by
        cases hb : b.gone
        · obtain ⟨n, hn⟩ := h0.2 hb; simp at hn
        · rfl
      simpa [this] using ih
    | some n =>
      have : b.gone = false := h0.1 ⟨n, rfl⟩
      simpa [this] using ih
theorem Sim.live (h : Sim M R (-1)) : cnt M = liveR R := sim_live M R h.len fun j r hr => by
  constructor
  · rintro ⟨n, hn⟩
    cases hg : r.gone
    · rfl
    · have := (h.gone j r hr hg).1
      rw [hn] at this; cases this
  · intro hg
    obtain ⟨n, hn, _⟩ := h.node j r hr hg
    exact ⟨n, hn⟩
theorem cnt_le (M : CS) : cnt M ≤ M.length := List.length_filter_le _ _

theorem Sim.keep (h : Sim M R (-1)) {j : Nat} {r : RN} {n : CN} (hr : R[j]? = some r) (hg : r.gone = false) (hn : cget M j = some n) : Sim (M.set j (some { n with count := n.count + 1 })) (R.set j { r with kept := r.kept + 1 }) (-1) := by
  have hjl := (List.getElem?_eq_some_iff.1 hr).1
  rw [cget_nat] at hn
  have hkk := fun k => kidsR_kept R j r (r.kept + 1) k hr
  obtain ⟨n0, hn0, e1, e2, e3, e4, e5, e6⟩ := h.node j r hr hg
  rw [hn0] at hn
  injection hn with hn
  subst hn
  rw [if_neg (by omega)] at e6
  refine ⟨by rw [List.length_set, List.length_set]; exact h.len, fun i q hq hqg => ?_, fun i q hq hqg => ?_, fun i q hq => ?_, fun i q hq hqg hne => ?_, fun i q hq => ?_, fun i q hq => ?_, fun i hi => by omega⟩
  · rcases set_get hq with ⟨rfl, rfl, _⟩ | ⟨hij, hq'⟩
    · exact ⟨_, List.getElem?_set_self (by rw [h.len]; exact hjl), e1, e2, e3, e4, e5, by rw [if_neg (by omega), hkk]; dsimp only; omega⟩
    · obtain ⟨n', hn', f⟩ := h.node i q hq' hqg
      exact ⟨n', by rw [List.getElem?_set_ne (fun h => hij h.symm)]; exact hn', by rw [hkk]; exact f⟩
  · rcases set_get hq with ⟨rfl, rfl, _⟩ | ⟨hij, hq'⟩
    · have hqg' : r.gone = true := hqg
      rw [hg] at hqg'; cases hqg'
    · obtain ⟨f1, f2⟩ := h.gone i q hq' hqg
      exact ⟨by rw [List.getElem?_set_ne (fun h => hij h.symm)]; exact f1, f2⟩
  · rcases set_get hq with ⟨rfl, rfl, _⟩ | ⟨hij, hq'⟩
    · have := h.kept _ r hr; dsimp only; omega
    · exact h.kept i q hq'
  · rw [hkk]
    rcases set_get hq with ⟨rfl, rfl, _⟩ | ⟨hij, hq'⟩
    · have := h.kept _ r hr; dsimp only; omega
    · exact h.pos i q hq' hqg hne
  · have key : ∀ (i0 : Nat) (q0 : RN), R[i0]? = some q0 → ∀ q1 : RN, q1.prev = q0.prev → q1.cell = q0.cell → q1.gone = q0.gone → q1.prev = -1 ∨ ∃ (i : Nat) (p : RN), q1.prev = (i : Int) ∧ i < i0 ∧ (R.set j { r with kept := r.kept + 1 })[i]? = some p ∧ (q1.gone = false → p.gone = false) ∧ p.cell ≤ q1.cell := by
      intro i0 q0 hq0 q1 c1 c2 c3
      rcases h.prev i0 q0 hq0 with h | ⟨i2, p, h, hlt, hp, hpg, hpc⟩
      · exact .inl (c1.trans h)
      · by_cases e : i2 = j
        · subst e
          rw [hr] at hp; injection hp with hp; subst hp
          exact .inr ⟨i2, { r with kept := r.kept + 1 }, c1.trans h, hlt, List.getElem?_set_self hjl, fun _ => hg, by rw [c2]; exact hpc⟩
        · exact .inr ⟨i2, p, c1.trans h, hlt, by rw [List.getElem?_set_ne (fun h => e h.symm)]; exact hp, fun hg1 => hpg (c3 ▸ hg1), by rw [c2]; exact hpc⟩
    rcases set_get hq with ⟨rfl, rfl, _⟩ | ⟨hij, hq'⟩
    · exact key i r hr _ rfl rfl rfl
    · exact key i q hq' _ rfl rfl rfl
  · rcases set_get hq with ⟨rfl, rfl, _⟩ | ⟨hij, hq'⟩
    · exact h.cell _ r hr
    · exact h.cell i q hq'

theorem snoc_get {α : Type} {R : List α} {q r : α} {i : Nat} (h : (R ++ [q])[i]? = some r) : (i < R.length ∧ R[i]? = some r) ∨ (i = R.length ∧ r = q) := by
  by_cases e : i < R.length
  · rw [List.getElem?_append_left e] at h
    exact .inl ⟨e, h⟩
  · have hl := (List.getElem?_eq_some_iff.1 h).1
    rw [List.length_append, List.length_singleton] at hl
    obtain rfl : i = R.length := by omega
    simp at h
    exact .inr ⟨rfl, h.symm⟩
theorem Sim.nokid (h : Sim M R (-1)) {k : Int} (hk : (R.length : Int) ≤ k) : kidsR R k = 0 := by
  unfold kidsR
  rw [List.filter_eq_nil_iff.2, List.length_nil]
  intro r hr
  obtain ⟨j, hj⟩ := List.getElem?_of_mem hr
  have hl := (List.getElem?_eq_some_iff.1 hj).1
  rcases h.prev j r hj with h | ⟨i, p, h, hlt, _⟩
  · simp; omega
  · simp; omega

/-- A node with none ahead. -/
theorem Sim.push0 (h : Sim M R (-1)) (b : Nat) (num slot gen : Int) : Sim (M ++ [some ⟨b, -1, 0, num, slot, gen, 1⟩]) (R ++ [⟨-1, 0, num, slot, gen, 1, false⟩]) (-1) := by
  have hk : ∀ k : Int, 0 ≤ k → kidsR (R ++ [⟨-1, 0, num, slot, gen, 1, false⟩]) k = kidsR R k := fun k hk => by
    rw [kidsR_snoc, if_neg (fun hh => by have := hh.2; dsimp only at this; omega)]; rfl
  refine ⟨by simp [h.len], fun i q hq hqg => ?_, fun i q hq hqg => ?_, fun i q hq => ?_, fun i q hq hqg hne => ?_, fun i q hq => ?_, fun i q hq => ?_, fun i hi => by omega⟩
  · rw [hk _ (by omega)]
    rcases snoc_get hq with ⟨hl, hq'⟩ | ⟨rfl, rfl⟩
    · obtain ⟨n', hn', f⟩ := h.node i q hq' hqg
      exact ⟨n', by rw [List.getElem?_append_left (by rw [h.len]; exact hl)]; exact hn', f⟩
    · exact ⟨⟨b, -1, 0, num, slot, gen, 1⟩, by rw [← h.len]; simp, rfl, rfl, rfl, rfl, rfl, by rw [if_neg (by omega), h.nokid (by omega)]; rfl⟩
  · rcases snoc_get hq with ⟨hl, hq'⟩ | ⟨rfl, rfl⟩
    · obtain ⟨f1, f2⟩ := h.gone i q hq' hqg
      exact ⟨by rw [List.getElem?_append_left (by rw [h.len]; exact hl)]; exact f1, f2⟩
    · cases hqg
  · rcases snoc_get hq with ⟨hl, hq'⟩ | ⟨rfl, rfl⟩
    · exact h.kept i q hq'
    · dsimp only; omega
  · rw [hk _ (by omega)]
    rcases snoc_get hq with ⟨hl, hq'⟩ | ⟨rfl, rfl⟩
    · exact h.pos i q hq' hqg hne
    · dsimp only; omega
  · rcases snoc_get hq with ⟨hl, hq'⟩ | ⟨rfl, rfl⟩
    · rcases h.prev i q hq' with h2 | ⟨i2, p, h2, hlt, hp, hpg, hpc⟩
      · exact .inl h2
      · exact .inr ⟨i2, p, h2, hlt, by rw [List.getElem?_append_left (by omega)]; exact hp, hpg, hpc⟩
    · exact .inl rfl
  · rcases snoc_get hq with ⟨hl, hq'⟩ | ⟨rfl, rfl⟩
    · exact h.cell i q hq'
    · exact ⟨by dsimp only; omega, by dsimp only; omega⟩

/-- A node behind one. -/
theorem Sim.push1 (h : Sim M R (-1)) {j : Nat} {r : RN} {n : CN} (hr : R[j]? = some r) (hg : r.gone = false) (hn : cget M j = some n) (b : Nat) (cell num slot gen : Int) (hc : r.cell ≤ cell ∧ cell ≤ 5) :
    Sim (M.set j (some { n with count := n.count + 1 }) ++ [some ⟨b, j, cell, num, slot, gen, 1⟩]) (R ++ [⟨j, cell, num, slot, gen, 1, false⟩]) (-1) := by
  have hjl := (List.getElem?_eq_some_iff.1 hr).1
  rw [cget_nat] at hn
  obtain ⟨n0, hn0, e1, e2, e3, e4, e5, e6⟩ := h.node j r hr hg
  rw [hn0] at hn
  injection hn with hn
  subst hn
  rw [if_neg (by omega)] at e6
  have hk := fun k => kidsR_snoc R ⟨(j : Int), cell, num, slot, gen, 1, false⟩ k
  have hc0 := h.cell j r hr
  refine ⟨by simp [h.len], fun i q hq hqg => ?_, fun i q hq hqg => ?_, fun i q hq => ?_, fun i q hq hqg hne => ?_, fun i q hq => ?_, fun i q hq => ?_, fun i hi => by omega⟩
  · rw [hk]
    rcases snoc_get hq with ⟨hl, hq'⟩ | ⟨rfl, rfl⟩
    · by_cases e : i = j
      · subst e
        rw [hr] at hq'; injection hq' with hq'; subst hq'
        exact ⟨{ n0 with count := n0.count + 1 }, by rw [List.getElem?_append_left (by rw [List.length_set, h.len]; exact hl), List.getElem?_set_self (by rw [h.len]; exact hl)], e1, e2, e3, e4, e5, by rw [if_neg (show ¬ (i : Int) = -1 by omega), if_pos ⟨rfl, rfl⟩]; dsimp only; omega⟩
      · obtain ⟨n', hn', f1, f2, f3, f4, f5, f6⟩ := h.node i q hq' hqg
        exact ⟨n', by rw [List.getElem?_append_left (by rw [List.length_set, h.len]; exact hl), List.getElem?_set_ne (fun h => e h.symm)]; exact hn', f1, f2, f3, f4, f5, by rw [if_neg (show ¬ (i : Int) = -1 by omega)] at f6 ⊢; rw [if_neg (fun hh => by have := hh.2; dsimp only at this; omega)]; omega⟩
    · refine ⟨⟨b, j, cell, num, slot, gen, 1⟩, by rw [← h.len]; simp, rfl, rfl, rfl, rfl, rfl, ?_⟩
      rw [if_neg (show ¬ ((R.length : Nat) : Int) = -1 by omega), h.nokid (by omega), if_neg (fun hh => by have := hh.2; dsimp only at this; omega)]; rfl
  · rcases snoc_get hq with ⟨hl, hq'⟩ | ⟨rfl, rfl⟩
    · obtain ⟨f1, f2⟩ := h.gone i q hq' hqg
      have e : i ≠ j := fun e => by subst e; rw [hr] at hq'; injection hq' with hq'; subst hq'; rw [hg] at hqg; cases hqg
      exact ⟨by rw [List.getElem?_append_left (by rw [List.length_set, h.len]; exact hl), List.getElem?_set_ne (fun h => e h.symm)]; exact f1, f2⟩
    · cases hqg
  · rcases snoc_get hq with ⟨hl, hq'⟩ | ⟨rfl, rfl⟩
    · exact h.kept i q hq'
    · dsimp only; omega
  · rw [hk]
    rcases snoc_get hq with ⟨hl, hq'⟩ | ⟨rfl, rfl⟩
    · have := h.pos i q hq' hqg hne
      omega
    · dsimp only; omega
  · rcases snoc_get hq with ⟨hl, hq'⟩ | ⟨rfl, rfl⟩
    · rcases h.prev i q hq' with h2 | ⟨i2, p, h2, hlt, hp, hpg, hpc⟩
      · exact .inl h2
      · exact .inr ⟨i2, p, h2, hlt, by rw [List.getElem?_append_left (by omega)]; exact hp, hpg, hpc⟩
    · exact .inr ⟨j, r, rfl, hjl, by rw [List.getElem?_append_left hjl]; exact hr, fun _ => hg, hc.1⟩
  · rcases snoc_get hq with ⟨hl, hq'⟩ | ⟨rfl, rfl⟩
    · exact h.cell i q hq'
    · exact ⟨by dsimp only; omega, hc.2⟩

/-- A kept node is dropped. -/
theorem Sim.dropped (h : Sim M R (-1)) {j : Nat} {r : RN} (hr : R[j]? = some r) (hg : r.gone = false) (hk : 1 ≤ r.kept) : Sim M (R.set j { r with kept := r.kept - 1 }) j := by
  have hjl := (List.getElem?_eq_some_iff.1 hr).1
  have hkk := fun k => kidsR_kept R j r (r.kept - 1) k hr
  refine ⟨by rw [List.length_set]; exact h.len, fun i q hq hqg => ?_, fun i q hq hqg => ?_, fun i q hq => ?_, fun i q hq hqg hne => ?_, fun i q hq => ?_, fun i q hq => ?_, fun i hi => ?_⟩
  · rw [hkk]
    rcases set_get hq with ⟨rfl, rfl, _⟩ | ⟨hij, hq'⟩
    · obtain ⟨n', hn', f1, f2, f3, f4, f5, f6⟩ := h.node i r hr hg
      exact ⟨n', hn', f1, f2, f3, f4, f5, by rw [if_neg (by omega)] at f6; rw [if_pos rfl]; dsimp only; omega⟩
    · obtain ⟨n', hn', f1, f2, f3, f4, f5, f6⟩ := h.node i q hq' hqg
      exact ⟨n', hn', f1, f2, f3, f4, f5, by rw [if_neg (by omega)] at f6 ⊢; exact f6⟩
  · rcases set_get hq with ⟨rfl, rfl, _⟩ | ⟨hij, hq'⟩
    · have hqg' : r.gone = true := hqg
      rw [hg] at hqg'; cases hqg'
    · exact h.gone i q hq' hqg
  · rcases set_get hq with ⟨rfl, rfl, _⟩ | ⟨hij, hq'⟩
    · dsimp only; omega
    · exact h.kept i q hq'
  · rw [hkk]
    rcases set_get hq with ⟨rfl, rfl, _⟩ | ⟨hij, hq'⟩
    · exact absurd rfl hne
    · exact h.pos i q hq' hqg (by omega)
  · have key : ∀ (i0 : Nat) (q0 : RN), R[i0]? = some q0 → ∀ q1 : RN, q1.prev = q0.prev → q1.cell = q0.cell → q1.gone = q0.gone → q1.prev = -1 ∨ ∃ (i : Nat) (p : RN), q1.prev = (i : Int) ∧ i < i0 ∧ (R.set j { r with kept := r.kept - 1 })[i]? = some p ∧ (q1.gone = false → p.gone = false) ∧ p.cell ≤ q1.cell := by
      intro i0 q0 hq0 q1 c1 c2 c3
      rcases h.prev i0 q0 hq0 with h | ⟨i2, p, h, hlt, hp, hpg, hpc⟩
      · exact .inl (c1.trans h)
      · by_cases e : i2 = j
        · subst e
          rw [hr] at hp; injection hp with hp; subst hp
          exact .inr ⟨i2, { r with kept := r.kept - 1 }, c1.trans h, hlt, List.getElem?_set_self hjl, fun _ => hg, by rw [c2]; exact hpc⟩
        · exact .inr ⟨i2, p, c1.trans h, hlt, by rw [List.getElem?_set_ne (fun h => e h.symm)]; exact hp, fun hg1 => hpg (c3 ▸ hg1), by rw [c2]; exact hpc⟩
    rcases set_get hq with ⟨rfl, rfl, _⟩ | ⟨hij, hq'⟩
    · exact key i r hr _ rfl rfl rfl
    · exact key i q hq' _ rfl rfl rfl
  · rcases set_get hq with ⟨rfl, rfl, _⟩ | ⟨hij, hq'⟩
    · exact h.cell _ r hr
    · exact h.cell i q hq'
  · have e : i = j := by omega
    subst e
    exact ⟨{ r with kept := r.kept - 1 }, List.getElem?_set_self hjl, hg⟩
end

end Go.Proofs.Ythflfafenehofaa
