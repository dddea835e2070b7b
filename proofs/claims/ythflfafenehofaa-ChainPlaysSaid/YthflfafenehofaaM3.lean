/-
  The walks of the document's chain: Drop.
-/
import Derived.Test.YthflfafenehofaaM2
namespace Go.Proofs.Ythflfafenehofaa
open Go.RowKit Go.Shelf

attribute [local go_sem] Oper.semAt_some

/-- What the document lets go. -/
inductive DropsR : List RN → Int → List (Int × Int) → List RN → Prop
  | stop {R : List RN} {k : Int} (h : k < 0 ∨ 0 < cntR R k) : DropsR R k [] R
  | gone {R R' : List RN} {j : Nat} {r : RN} {out : List (Int × Int)} (hr : R[j]? = some r) (hc : cntR R j ≤ 0) (h : DropsR (R.set j { r with gone := true }) r.prev out R') : DropsR R (j : Int) ((r.slot, r.gen) :: out) R'

/-- Kept at most so often, behind earlier ones. -/
def OkR (R : List RN) : Prop := ∀ (j : Nat) (r : RN), R[j]? = some r → (-100000 ≤ r.kept ∧ r.kept ≤ 100000) ∧ r.prev < (j : Int)
theorem OkR.set {R : List RN} (h : OkR R) {k : Nat} {q : RN} (hq : (-100000 ≤ q.kept ∧ q.kept ≤ 100000) ∧ q.prev < (k : Int)) : OkR (R.set k q) := fun j r hj => by
  by_cases e : k = j
  · subst e
    by_cases hl : k < R.length
    · rw [List.getElem?_set_self hl] at hj
      injection hj with hj; subst hj
      exact hq
    · rw [List.getElem?_eq_none (by simp; omega)] at hj; cases hj
  · rw [List.getElem?_set_ne e] at hj
    exact h j r hj

theorem isR_some {R : List RN} {k : Int} (hi : isR R k = true) : ∃ j : Nat, k = (j : Int) ∧ ∃ r, R[j]? = some r ∧ r.gone = false := by
  unfold isR at hi
  split at hi
  · refine ⟨k.toNat, by omega, ?_⟩
    cases e : R[k.toNat]? with
    | none => rw [e] at hi; cases hi
    | some r => rw [e] at hi; exact ⟨r, rfl, by simpa using hi⟩
  · cases hi
theorem cntR_bd {R : List RN} (h : OkR R) (hl : R.length ≤ 1000) (k : Int) : -100000 ≤ cntR R k ∧ cntR R k ≤ 101000 := by
  unfold cntR
  split
  · rename_i hi
    obtain ⟨j, rfl, r, hr, _⟩ := isR_some hi
    have := (h j r hr).1
    have h2 := kidsR_le R j
    rw [Int.toNat_natCast, hr]
    dsimp only
    omega
  · omega

set_option maxHeartbeats 1000000 in
theorem rdrop_no {B : Nat} {W : World} {m : Nat} {v : Value} {R : List RN} (h : IsRef B W m v R) (k : Int) (hi : isR R k = false) :
    Calls Try.prog 28 #[.pointer (some ⟨m, 0, none⟩), .int .i64 k] W fun e w' => e = .returned (.tuple #[.slice none 0 0, .bool false]) ∧ W = w' := by
  go_enter Try.func28, Try.ntmps28
  go_wp2_with (go_at_call 17; refine (ris_any h k).mono ?_; rintro e w1 ⟨rfl, rfl⟩; rw [hi])
  go_ret2
  exact ⟨rfl, rfl⟩

theorem IsRef.at {B : Nat} {W : World} {m g n cap : Nat} {R : List RN} (_ : R.length = n) (h : IsRef B W m (.slice (some ⟨g, 0, none⟩) n cap) R) :
    W.cell? ⟨m, 0, none⟩ = some (.slice (some ⟨g, 0, none⟩) n cap) ∧ W.frozen? ⟨m, 0, none⟩ = false ∧ m < W.heap.size ∧ B ≤ g ∧ g < W.heap.size ∧ g ≠ m ∧ (∀ i, W.frozen? ⟨g, i, none⟩ = false) ∧
      ∀ (k : Nat) (r : RN), R[k]? = some r → W.cell? ⟨g, k * 7, none⟩ = some (.int .i64 r.prev) ∧ W.cell? ⟨g, k * 7 + 1, none⟩ = some (.int .i64 r.cell) ∧ W.cell? ⟨g, k * 7 + 2, none⟩ = some (.int .i64 r.num) ∧
        W.cell? ⟨g, k * 7 + 3, none⟩ = some (.int .i64 r.slot) ∧ W.cell? ⟨g, k * 7 + 4, none⟩ = some (.int .i64 r.gen) ∧ W.cell? ⟨g, k * 7 + 5, none⟩ = some (.int .i64 r.kept) ∧ W.cell? ⟨g, k * 7 + 6, none⟩ = some (.bool r.gone) := by
  obtain ⟨h1, h2, h3, ⟨h4, _⟩ | ⟨g', cap', e, h5, h6, h7, h8, h9⟩⟩ := h.cells
  · cases h4
  · injection e with e1 e2 e3
    injection e1 with e1
    injection e1 with e1
    subst e1
    exact ⟨h1, h2, h3, h5, h6, h7, h8, h9⟩

/-- What the loop bears. -/
def RDropRel (B : Nat) (W : World) (m : Nat) (v : Value) (n : Nat) (R0 : List RN) (k0 : Int) (vk vo : Value) (wr : World) : Prop :=
  ∃ (pre : List (Int × Int)) (R : List RN) (k : Int), vk = .int .i64 k ∧ wr.ownsRow W.heap.size 31 2 vo pre.length (refv pre) ∧ IsRef B wr m v R ∧ R.length = n ∧ OkR R ∧ Keep (YR m v) W wr ∧ k < (n : Int) ∧
    (pre.length : Int) + (if 0 ≤ k then k + 1 else 0) ≤ n ∧ (∀ out R', DropsR R k out R' → DropsR R0 k0 (pre ++ out) R')

set_option maxHeartbeats 2000000 in
theorem rdrop_yes {B : Nat} {W : World} {m : Nat} {v : Value} {R : List RN} (h : IsRef B W m v R) (hok : OkR R) (hl : R.length ≤ 1000) {j : Nat} {r : RN} (hr : R[j]? = some r) (hg : r.gone = false) (hkp : 0 ≤ r.kept) :
    Calls Try.prog 28 #[.pointer (some ⟨m, 0, none⟩), .int .i64 (j : Int)] W fun e w' => ∃ vo out R', e = .returned (.tuple #[vo, .bool true]) ∧ DropsR (R.set j { r with kept := r.kept - 1 }) j out R' ∧ w'.ownsRow W.heap.size 31 2 vo out.length (refv out) ∧ IsRef B w' m v R' ∧ Keep (YR m v) W w' := by
  have hi : isR R (j : Int) = true := by simp [isR, hr, hg]
  obtain ⟨c1, c2, c3, hc⟩ := h.cells
  rcases hc with ⟨_, e⟩ | ⟨g, cap, rfl, _, hgl, _, hfz, hcell⟩
  · subst e; simp at hr
  have hjl := (List.getElem?_eq_some_iff.1 hr).1
  have d5 := (hcell j r hr).2.2.2.2.2.1
  obtain ⟨⟨hk1, hk2⟩, hp⟩ := hok j r hr
  have hnew := h.setKept rfl hr (r.kept - 1)
  have hfr := hfz (j * 7 + 5)
  have hst : RDropRel B W m (.slice (some ⟨g, 0, none⟩) R.length cap) R.length (R.set j { r with kept := r.kept - 1 }) j (.int .i64 (j : Int)) (.slice none 0 0) (W.setCell ⟨g, j * 7 + 5, none⟩ (.int .i64 (r.kept - 1))) :=
    ⟨[], _, _, rfl, World.ownsRow_nil _ _ _ _, hnew, by simp, hok.set ⟨⟨by dsimp only; omega, by dsimp only; omega⟩, hp⟩, (Keep.refl _ W).setCell (p := ⟨g, j * 7 + 5, none⟩) (.inl (.inr rfl)) _, by omega, by rw [if_pos (by omega)]; simp; omega, fun out R' hd => hd⟩
  obtain ⟨i0, hi0, hz0, hz1, hz2⟩ := info_parts info31
  have hgm : g < W.heap.size := hgl
  have hmW := c3
  obtain ⟨n, hn⟩ : ∃ n, R.length = n := ⟨_, rfl⟩
  obtain ⟨R0, hR0⟩ : ∃ R0, R.set j { r with kept := r.kept - 1 } = R0 := ⟨_, rfl⟩
  rw [hn] at hst h c1 hl hjl
  rw [hR0] at hst
  rw [hn]
  rw [hR0]
  have HI := Lib.hid (And.intro hgl hmW)
  clear hcell hfz hok hr hg hp hnew hR0 hn hgm hmW
  go_enter Try.func28, Try.ntmps28
  go_wp2_with (go_at_call 17; refine (ris_any h _).mono ?_; rintro e w1 ⟨rfl, rfl⟩; rw [hi])
  clear h hi d5 hfr c1 c2 hk1 hk2 hkp
  generalize (W.setCell ⟨g, j * 7 + 5, none⟩ (.int .i64 (r.kept - 1))) = W1 at hst ⊢
  clear hjl
  go_loopw [1, 7] (fun vk vo wr => RDropRel B W m (.slice (some ⟨g, 0, none⟩) n cap) n R0 (j : Int) vk vo wr) (fun vk _ _ => (intOf vk + 1).toNat)
  case atStart => exact hst
  case round =>
    clear hst
    obtain ⟨pre, R1, k, rfl, hown, href, hn1, hok1, hkp, hkn, hlen, hdr⟩ := hrel
    by_cases h0 : 0 ≤ k
    · obtain ⟨i, rfl⟩ : ∃ i : Nat, k = (i : Int) := ⟨k.toNat, by omega⟩
      obtain ⟨b1, b2⟩ := cntR_bd hok1 (by omega) (i : Int)
      by_cases hc0 : cntR R1 (i : Int) ≤ 0
      · obtain ⟨q, hq⟩ : ∃ q, R1[i]? = some q := ⟨_, List.getElem?_eq_getElem (by omega)⟩
        have hpq := (hok1 i q hq).2
        have hnext := fun out R' hd => hdr _ R' (DropsR.gone (out := out) hq hc0 hd)
        have hnew := href.setGone hn1 hq true
        obtain ⟨a1, a2, a3, a4, a5, a6, a7, hcell'⟩ := hnew.at (by rw [List.length_set]; exact hn1)
        obtain ⟨b1', b2', b3', b4', b5', b6', b7', hcell1⟩ := href.at hn1
        have hq' : (R1.set i { q with gone := true })[i]? = some { q with gone := true } := List.getElem?_set_self (by omega)
        obtain ⟨d0, d1, d2, d3, d4, d5, d6⟩ := hcell' i _ hq'
        have f6 := b7' (i * 7 + 6)
        have s6 := (hcell1 i q hq).2.2.2.2.2.2
        have hm0 := hnew.blk
        rw [if_pos h0] at hlen
        have hlg : g < W.heap.size := HI.out.1
        have hown2 : (wr.setCell ⟨g, i * 7 + 6, none⟩ (.bool true)).ownsRow W.heap.size 31 2 u7 pre.length (refv pre) := ownsRow_setCell_below hown hlg _
        have hkp2 : Keep (YR m (.slice (some ⟨g, 0, none⟩) n cap)) W (wr.setCell ⟨g, i * 7 + 6, none⟩ (.bool true)) := hkp.setCell (p := ⟨g, i * 7 + 6, none⟩) (.inl (.inr rfl)) _
        have hok2 := hok1.set (q := { q with gone := true }) (k := i) (hok1 i q hq)
        have hplen : pre.length + 1 ≤ 1000000 := by omega
        have hi1 : (pre.length : Int) + 1 + (if 0 ≤ q.prev then q.prev + 1 else 0) ≤ n := by split <;> omega
        have HK := Lib.hid (And.intro hok1 (And.intro hnext (And.intro hok2 (And.intro hi1 (And.intro hn1 hpq)))))
        have hcl : R1.length ≤ 1000 := by omega
        have hil : i < R1.length := by omega
        have hin : i < n := by omega
        clear hok1 hnext hok2 hdr hlen hcell1 hcell' hq hq' b7' a7 hi1 hn1 hpq b1 b2 hkn
        go_wp2_with (first | (go_at_call 31; refine (rcount_any href hcl _ (fun j r hj => (HK.out.1 j r hj).1)).mono ?_; rintro e w2 ⟨rfl, rfl⟩) | (at_builtin; refine wpList_append_own _ rfl _ _ 32 rfl W.heap.size 31 i0 (.agg #[.int .i64 0, .int .i64 0]) 2 16 Try.underlying32 hi0 hz0 hz1 hz2 rfl (by decide) _ _ _ rfl (hown2.alloc _) ⟨wr.heap.size, 0, none⟩ 1 1 [.int .i64 q.slot, .int .i64 q.gen] rfl rfl ?c1 ?c2 ?c3 ?c4 ?c5 ?_))
        case c1 => exact two_new (set_size _ _ _) _ _ _
        case c2 => intro x hx; simp at hx; rcases hx with rfl | rfl <;> rfl
        case c3 => unfold maxLen; omega
        case c4 => omega
        case c5 => have := hkp2.size; rw [World.size_alloc]; omega
        intro vo w3 hown3 hgr hnil
        have hrow : ∀ b, u7.ownBlock = some b → W.heap.size ≤ b := fun b hb => (hown.lt b hb).1
        have hk3 : Keep (fun b => u7.ownBlock = some b) (wr.setCell ⟨g, i * 7 + 6, none⟩ (.bool true)) w3 := ((Keep.refl _ _).alloc _).grown hgr fun b hb => .inl hb
        have href3 := hnew.keep hk3 fun b hb hx => by
          have h1 := hrow b hx
          have h2 := HI.out
          rcases hb with hb | hb
          · omega
          · have : g = b := by simpa [Value.ownBlock] using hb
            omega
        have hkp3 : Keep (YR m (.slice (some ⟨g, 0, none⟩) n cap)) W w3 := hkp2.trans' hk3 fun b hb => .inr (hrow b hb)
        obtain ⟨q1, q2, q3, q4, q5, q6, q7, hcell3⟩ := href3.at (by rw [List.length_set]; exact HK.out.2.2.2.2.1)
        have hq3 : (R1.set i { q with gone := true })[i]? = some { q with gone := true } := List.getElem?_set_self hil
        have d0' := (hcell3 i _ hq3).1
        have hrel : RDropRel B W m (.slice (some ⟨g, 0, none⟩) n cap) n R0 (j : Int) (.int .i64 q.prev) vo w3 := by
          obtain ⟨x1, hnext, hok2, hi1, hn1, hpq⟩ := HK.out
          refine ⟨pre ++ [(q.slot, q.gen)], _, q.prev, rfl, ?_, href3, by rw [List.length_set]; exact hn1, hok2, hkp3, by omega, ?_, fun out R' hd => ?_⟩
          · rw [refv_snoc, List.length_append]; exact hown3
          · rw [List.length_append]; simpa using hi1
          · have := hnext out R' hd
            simpa using this
        have hms : q.prev < (i : Int) := HK.out.2.2.2.2.2
        have HM := Lib.hid hms
        clear hcell3 hq3 hown3 hgr hk3 href3 hkp3 hown2 hkp2 hnew href hown hkp hms
        go_wp2_with fail
        go_roundw
        case rel => exact hrel
        case measure =>
          have := HM.out
          simp only [intOf]
          omega
      · have hpos : ¬ cntR R1 (i : Int) ≤ 0 := hc0
        have hend := hdr [] R1 (.stop (.inr (by omega)))
        rw [List.append_nil] at hend
        have HK := Lib.hid hok1
        clear hok1 hdr
        go_wp2_with (go_at_call 31; refine (rcount_any href (by omega) _ (fun j r hj => (HK.out j r hj).1)).mono ?_; rintro e w2 ⟨rfl, rfl⟩)
        go_ret2
        exact ⟨_, pre, R1, rfl, hend, hown, href, hkp⟩
    · have hend := hdr [] R1 (.stop (.inl (by omega)))
      rw [List.append_nil] at hend
      clear hdr hok1
      go_wp2_with fail
      go_ret2
      first | exact ⟨_, pre, R1, rfl, hend, hown, href, hkp⟩ | exact ⟨_, rfl, pre, R1, hend, hown, href, hkp⟩

end Go.Proofs.Ythflfafenehofaa
