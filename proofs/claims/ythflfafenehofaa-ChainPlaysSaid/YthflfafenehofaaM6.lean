/-
  Push in both chains.
-/
import Derived.Test.YthflfafenehofaaM4
import Derived.Test.YthflfafenehofaaP3
import Derived.Test.YthflfafenehofaaV3
namespace Go.Proofs.Ythflfafenehofaa
open Go.RowKit Go.Shelf

/-- Both chains lie in memory, apart, and are alike. -/
def Both (B c mb m : Nat) (W : World) (M : CS) (R : List RN) (K : Int) : Prop :=
  ∃ (X : Nat → Prop) (v : Value), IsChain X W c mb M ∧ IsRef B W m v R ∧ (∀ b, YR m v b → ¬ X b) ∧ (∀ b, X b → B ≤ b) ∧ B ≤ m ∧ Sim M R (-1) ∧ (∀ (j : Nat) (r : RN), R[j]? = some r → r.kept ≤ K)
theorem Both.below {B c mb m : Nat} {W W' : World} {M : CS} {R : List RN} {K : Int} (h : Both B c mb m W M R K) (hb : Below W.heap.size W W') : Both B c mb m W' M R K := by
  obtain ⟨X, v, h1, h2, h3⟩ := h
  exact ⟨X, v, h1.below hb, h2.below hb, h3⟩

theorem push_both {B c mb m : Nat} {W : World} {M : CS} {R : List RN} {K : Int} {X : Nat → Prop} {v : Value} (hch : IsChain X W c mb M) (href : IsRef B W m v R) (hXY : ∀ b, YR m v b → ¬ X b) (hXB : ∀ b, X b → B ≤ b) (hBm : B ≤ m) (hsim : Sim M R (-1))
    (hkK : ∀ (j : Nat) (r : RN), R[j]? = some r → r.kept ≤ K) (hK : 0 ≤ K ∧ K ≤ 900) (hl : R.length ≤ 100) (id cv num gen : Int) :
    ∃ (a : Int) (b : Bool), Calls Try.prog 10 #[.pointer (some ⟨c, 0, none⟩), .int .i64 id, .int .i64 cv, .int .i64 num, .agg #[.int .i64 num, .int .i64 gen]] W (fun e w' => e = .returned (.tuple #[.int .i64 a, .bool b]) ∧ Keep X W w' ∧
      Calls Try.prog 29 #[.pointer (some ⟨m, 0, none⟩), .int .i64 id, .int .i64 cv, .int .i64 num, .agg #[.int .i64 num, .int .i64 gen]] w' (fun e w'' => e = .returned (.tuple #[.int .i64 a, .bool b]) ∧
        ∃ M' R', Both B c mb m w'' M' R' (K + 1) ∧ R.length ≤ R'.length ∧ R'.length ≤ R.length + 1 ∧ Below B W w'')) := by
  have hml := blk_lt href.blk
  have hBW : B ≤ W.heap.size := by omega
  have hvl : ∀ b, YR m v b → b < W.heap.size := fun b hb => by
    rcases hb with rfl | hb
    · exact hml
    · exact (href.own.lt b hb).2
  have hYB : ∀ b, YR m v b → B ≤ b := fun b hb => by
    rcases hb with rfl | hb
    · exact hBm
    · exact (href.own.lt b hb).1
  have hcount : ∀ k n, cget M k = some n → 0 ≤ n.count ∧ n.count ≤ 4611686018427387904 := fun k n hn => by
    rcases hsim.get k with ⟨_, h2⟩ | ⟨j, r, n', rfl, hr, _, _, h2, _, _, _, _, _, h3⟩
    · rw [h2] at hn; cases hn
    · rw [h2] at hn; injection hn with hn; subst hn
      have := hkK j r hr
      have := hsim.kept j r hr
      have := kidsR_le R j
      omega
  have hno : ∀ {w'}, Below W.heap.size W w' → ∀ {w''}, Below w'.heap.size w' w'' → ∃ M' R', Both B c mb m w'' M' R' (K + 1) ∧ R.length ≤ R'.length ∧ R'.length ≤ R.length + 1 ∧ Below B W w'' := fun {w'} h1 {w''} h2 =>
    ⟨M, R, ⟨X, v, (hch.below h1).below h2, (href.below h1).below h2, hXY, hXB, hBm, hsim, fun j r hr => by have := hkK j r hr; omega⟩, Nat.le_refl _, by omega, (h1.mono hBW).trans (h2.mono (Nat.le_trans hBW h1.size))⟩
  have hyes : ∀ {w'} {b : Nat} {M' : CS} {q : RN}, IsChain (fun k => X k ∨ k = W.heap.size + 1) w' c mb M' → Keep X W w' → Sim M' (R ++ [q]) (-1) → q.kept = 1 → ∀ {w'' v'}, IsRef B w'' m v' (R ++ [q]) → Keep (YR m v) w' w'' → (∀ b, v'.ownBlock = some b → v.ownBlock = some b ∨ w'.heap.size ≤ b) →
      ∃ M' R', Both B c mb m w'' M' R' (K + 1) ∧ R.length ≤ R'.length ∧ R'.length ≤ R.length + 1 ∧ Below B W w'' := fun {w'} {_} {M'} {q} h1 h2 h3 h4 {w''} {v'} h5 h6 h7 => by
    have hs := h2.size
    refine ⟨M', R ++ [q], ⟨_, v', h1.keep h6 fun i hi hy => ?_, h5, fun b hb hx => ?_, fun b hb => ?_, hBm, h3, fun j r hr => ?_⟩, by simp, by simp, (h2.below hBW hXB).trans (h6.below (by omega) hYB)⟩
    · rcases hi with hi | rfl
      · exact hXY i hy hi
      · have := hvl _ hy; omega
    · have hlx := h1.lt b hx
      rcases hb with rfl | hb
      · rcases hx with hx | hx
        · exact hXY b (.inl rfl) hx
        · omega
      · rcases h7 b hb with h8 | h8
        · rcases hx with hx | hx
          · exact hXY b (.inr h8) hx
          · have := hvl b (.inr h8); omega
        · omega
    · rcases hb with hb | hb
      · exact hXB b hb
      · omega
    · rcases snoc_get hr with ⟨_, hr'⟩ | ⟨_, rfl⟩
      · have := hkK j r hr'; omega
      · omega
  have hMl : (M.length : Int) ≤ 4611686018427387904 := by rw [hsim.len]; omega
  rcases hsim.get id with ⟨g1, g2⟩ | ⟨j, r, n, rfl, hr, hgn, g1, g2, e1, e2, e3, e4, e5, e6⟩
  · by_cases h0 : id = -1 ∧ cv = 0
    · obtain ⟨rfl, rfl⟩ := h0
      refine ⟨(R.length : Int), true, (push_first hch hMl g2 num num gen).mono ?_⟩
      rintro e w' ⟨rfl, hch', hkp⟩
      refine ⟨by rw [hsim.len], hkp, (rpush_yes (href.keep hkp hXY) (by have := hkp.size; omega) (by omega) (-1) 0 num num gen (.inl ⟨rfl, rfl⟩)).mono ?_⟩
      rintro e w'' ⟨rfl, v', h5, h6, h7⟩
      exact ⟨rfl, hyes (b := 0) hch' hkp (hsim.push0 _ num num gen) rfl h5 h6 h7⟩
    · refine ⟨-1, false, (push_no hch id cv num num gen g2 h0).mono ?_⟩
      rintro e w' ⟨rfl, hb⟩
      refine ⟨rfl, Keep.of_below hb X, (rpush_no (href.below hb) id cv num num gen ?_).mono ?_⟩
      · by_cases h1 : id = -1
        · exact .inl ⟨h1, fun h2 => h0 ⟨h1, h2⟩⟩
        · exact .inr (.inl ⟨h1, g1⟩)
      · rintro e w'' ⟨rfl, hb2⟩
        exact ⟨rfl, hno hb hb2⟩
  · have hcl := hsim.cell j r hr
    have hcn := hcount _ n g2
    by_cases h0 : r.cell ≤ cv ∧ cv ≤ r.cell + 1 ∧ cv ≤ 5
    · obtain ⟨h1, h2, h3⟩ := h0
      refine ⟨(R.length : Int), true, (push_next hch hMl (j : Int) cv num num gen g2 (by omega) (by omega) hcn).mono ?_⟩
      rintro e w' ⟨rfl, hch', hkp⟩
      rw [Int.toNat_natCast] at hch'
      refine ⟨by rw [hsim.len], hkp, (rpush_yes (href.keep hkp hXY) (by have := hkp.size; omega) (by omega) (j : Int) cv num num gen (.inr ⟨j, r, rfl, hr, hgn, hcl.1, h1, h2, h3⟩)).mono ?_⟩
      rintro e w'' ⟨rfl, v', h5, h6, h7⟩
      exact ⟨rfl, hyes (b := 0) hch' hkp (hsim.push1 hr hgn g2 _ cv num num gen ⟨h1, h3⟩) rfl h5 h6 h7⟩
    · refine ⟨-1, false, (push_bad hch (j : Int) cv num num gen g2 (by omega) ?_).mono ?_⟩
      · rw [e2]
        by_cases h1 : cv < r.cell
        · exact .inl h1
        · right
          have : ¬ (cv ≤ r.cell + 1 ∧ cv ≤ 5) := fun h => h0 ⟨by omega, h.1, h.2⟩
          omega
      · rintro e w' ⟨rfl, hb⟩
        refine ⟨rfl, Keep.of_below hb X, (rpush_no (href.below hb) (j : Int) cv num num gen (.inr (.inr ⟨j, r, rfl, hr, hgn, hcl, ?_⟩))).mono ?_⟩
        · by_cases h1 : cv < r.cell
          · exact .inl h1
          · by_cases h2 : r.cell + 1 < cv
            · exact .inr (.inl h2)
            · exact .inr (.inr (by have : ¬ (cv ≤ r.cell + 1 ∧ cv ≤ 5) := fun h => h0 ⟨by omega, h.1, h.2⟩; omega))
        · rintro e w'' ⟨rfl, hb2⟩
          exact ⟨rfl, hno hb hb2⟩

end Go.Proofs.Ythflfafenehofaa
