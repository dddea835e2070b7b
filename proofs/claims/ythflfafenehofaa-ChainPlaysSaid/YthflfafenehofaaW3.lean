/-
  The walk of Drop.
-/
import Derived.Test.YthflfafenehofaaW2
import Derived.RangeFuncBox
import Derived.Lib.SmallJoins
namespace Go.Proofs.Ythflfafenehofaa
open Go.RowKit

/-- What is let go, one behind the other, and what is left. -/
inductive Drops : CS → Int → List (Int × Int) → CS → Prop
  | stop {M : CS} {k : Int} (h : cget M k = none) : Drops M k [] M
  | held {M : CS} {k : Int} {n : CN} (h : cget M k = some n) (hc : 1 < n.count) : Drops M k [] (M.set k.toNat (some { n with count := n.count - 1 }))
  | gone {M M' : CS} {k : Int} {n : CN} {out : List (Int × Int)} (h : cget M k = some n) (hc : n.count ≤ 1) (hr : Drops (M.set k.toNat none) n.prev out M') : Drops M k ((n.slot, n.gen) :: out) M'

theorem info31 : (Try.prog.info? 31).map (fun i => (i.zero, i.size, i.bytes)) = some (some (.agg #[.int .i64 0, .int .i64 0]), 2, 16) := by kernel_rfl

/-- Refs as cells. -/
def refv (l : List (Int × Int)) : List Value := l.flatMap fun r => [.int .i64 r.1, .int .i64 r.2]
theorem refv_snoc (l : List (Int × Int)) (a b : Int) : refv (l ++ [(a, b)]) = refv l ++ [.int .i64 a, .int .i64 b] := by simp [refv]
theorem refv_length (l : List (Int × Int)) : (refv l).length = l.length * 2 := by
  induction l with
  | nil => rfl
  | cons a l ih => simp [refv] at ih ⊢; omega

/-- A map's entries, out of memory. -/
def msz (w : World) (b : Nat) : Nat := match w.heap[b]? with | some (.map es _) => es.size | _ => 0
theorem msz_of {X : Nat → Prop} {w : World} {c mb : Nat} {M : CS} (h : IsChain X w c mb M) : msz w mb = cnt M := by
  obtain ⟨_, _, _, _, _, ⟨es, clk, h1, _, _, _, h5⟩, _⟩ := h
  simp [msz, h1, h5]

theorem two_new {W : World} {b : Nat} (hb : W.heap.size = b) (x y : Value) (t : TypeId) : ∀ j u, [x, y][j]? = some u → (W.alloc (.cells #[x, y] t)).cell? ((⟨b, 0, none⟩ : Addr).add j) = some u := by
  subst hb
  intro j u hu
  match j, hu with
  | 0, hu => simpa [Addr.add] using hu
  | 1, hu => simpa [Addr.add] using hu
  | j + 2, hu => simp at hu

theorem keep_own {X : Nat → Prop} {w w' : World} {base : Nat} {e : TypeId} {size : Nat} {v : Value} {n : Nat} {xs : List Value} (h : w.ownsRow base e size v n xs) (k : Keep X w w') (hX : ∀ q, base ≤ q → ¬ X q) : w'.ownsRow base e size v n xs := by
  obtain ⟨h1, h2⟩ := h
  refine ⟨h1, ?_⟩
  rcases h2 with h2 | ⟨g, cap, cur, hv, hg, hh, r⟩
  · exact .inl h2
  · exact .inr ⟨g, cap, cur, hv, hg, (k.block g (blk_lt hh) (hX g hg)).trans hh, r⟩

set_option maxHeartbeats 2000000 in
theorem drop_no {X : Nat → Prop} {w : World} {c mb : Nat} {M : CS} (h : IsChain X w c mb M) (k : Int) (hk : cget M k = none) :
    Calls Try.prog 11 #[.pointer (some ⟨c, 0, none⟩), .int .i64 k] w fun e w' => e = .returned (.tuple #[.slice none 0 0, .bool false]) ∧ w = w' := by
  have e1 : ptrOf (cget M k) = .pointer none := by rw [hk]; rfl
  clear hk
  go_enter Try.func11, Try.ntmps11
  go_wp2_with (go_at_call 23; refine (at_ok h _).mono ?_; rintro e w1 ⟨rfl, rfl⟩)
  go_ret2
  exact ⟨rfl, rfl⟩
set_option maxHeartbeats 2000000 in
theorem drop_nil (k : Int) (w : World) :
    Calls Try.prog 11 #[.pointer none, .int .i64 k] w fun e w' => e = .returned (.tuple #[.slice none 0 0, .bool false]) ∧ w = w' := by
  go_enter Try.func11, Try.ntmps11
  go_wp2_with (go_at_call 23; refine (at_nil _ _).mono ?_; rintro e w1 ⟨rfl, rfl⟩)
  go_ret2
  exact ⟨rfl, rfl⟩

/-- What the loop bears. -/
def DropRel (X : Nat → Prop) (w : World) (c mb : Nat) (M : CS) (k : Int) (B : Int) (vk vn vo : Value) (wr : World) : Prop :=
  ∃ (pre : List (Int × Int)) (M' : CS) (k' : Int), vk = .int .i64 k' ∧ vn = ptrOf (cget M' k') ∧ wr.ownsRow w.heap.size 31 2 vo pre.length (refv pre) ∧ IsChain X wr c mb M' ∧ Keep X w wr ∧
    (∀ k n, cget M' k = some n → 0 ≤ n.count ∧ n.count ≤ B) ∧ pre.length + cnt M' ≤ cnt M ∧ (∀ out M'', Drops M' k' out M'' → Drops M k (pre ++ out) M'')

set_option maxHeartbeats 2000000 in
theorem drop_yes {X : Nat → Prop} {w : World} {c mb : Nat} {M : CS} (h : IsChain X w c mb M) (k : Int) {n : CN} (hk : cget M k = some n) (hc : ∀ k n, cget M k = some n → 0 ≤ n.count ∧ n.count ≤ 4611686018427387904) (hn : cnt M ≤ 1000000) :
    Calls Try.prog 11 #[.pointer (some ⟨c, 0, none⟩), .int .i64 k] w fun e w' => ∃ vo out M', e = .returned (.tuple #[vo, .bool true]) ∧ Drops M k out M' ∧ w'.ownsRow w.heap.size 31 2 vo out.length (refv out) ∧ IsChain X w' c mb M' ∧ Keep X w w' := by
  have e1 : ptrOf (cget M k) = .pointer (some ⟨n.blk, 0, none⟩) := by rw [hk]; rfl
  have hS : DropRel X w c mb M k 4611686018427387904 (.int .i64 k) (ptrOf (cget M k)) (.slice none 0 0) w :=
    ⟨[], M, k, rfl, rfl, World.ownsRow_nil _ _ _ _, h, Keep.refl _ _, hc, by simp, fun out M'' hd => hd⟩
  rw [e1] at hS
  obtain ⟨i0, hi, hz0, hz1, hz2⟩ := info_parts info31
  clear hk
  go_enter Try.func11, Try.ntmps11
  go_wp2_with (go_at_call 23; refine (at_ok h _).mono ?_; rintro e w1 ⟨rfl, rfl⟩)
  go_loopw [1, 6, 7] (fun vk vn vo wr => DropRel X w c mb M k 4611686018427387904 vk vn vo wr) (fun _ _ _ wr => msz wr mb)
  case atStart => exact hS
  case round =>
    obtain ⟨pre, M', k', rfl, rfl, hown, hch, hkp, hct, hln, hdr⟩ := hrel
    cases hk' : cget M' k' with
    | none =>
      simp only [ptrOf]
      go_wp2_with fail
      go_ret2
      exact ⟨_, pre, M', rfl, by simpa using hdr [] M' (.stop hk'), hown, hch, hkp⟩
    | some n' =>
      simp only [ptrOf]
      obtain ⟨c0, c1, c2, c3, c4, c5, c6, c7, c8⟩ := hch.cells hk'
      obtain ⟨m1, m2⟩ := hct k' n' hk'
      have hR := hch.recount hk' (n'.count - 1)
      have hown2 : (wr.setCell ⟨n'.blk, 5, none⟩ (.int .i64 (n'.count - 1))).ownsRow w.heap.size 31 2 u7 pre.length (refv pre) := ownsRow_setCell_below hown (h.lt _ c8) _
      have hkp2 : Keep X w (wr.setCell ⟨n'.blk, 5, none⟩ (.int .i64 (n'.count - 1))) := hkp.setCell (.inl c8) _
      by_cases hcnt : 1 < n'.count
      · have hend := hdr [] _ (.held hk' hcnt)
        clear hk'
        go_wp2_with fail
        go_ret2
        exact ⟨_, pre, _, rfl, by simpa using hend, hown2, hR, hkp2⟩
      · have hle : n'.count ≤ 1 := by omega
        have hnext := fun out M'' hd => hdr _ M'' (Drops.gone (out := out) hk' hle hd)
        clear hcnt
        obtain ⟨g0, g1, g2⟩ := cget_some hk'
        have hpos := (cnt_set_none M' k'.toNat n' g2).2
        have hlen : pre.length + 1 ≤ 1000000 := by omega
        have HK := Lib.hid hk'
        clear hk' g2
        go_wp2_with (at_builtin; refine wpList_append_own _ rfl _ _ 32 rfl w.heap.size 31 i0 (.agg #[.int .i64 0, .int .i64 0]) 2 16 Try.underlying32 hi hz0 hz1 hz2 rfl (by decide) _ _ _ rfl (hown2.alloc _) ⟨wr.heap.size, 0, none⟩ 1 1 [.int .i64 n'.slot, .int .i64 n'.gen] rfl rfl ?c1 ?c2 ?c3 ?c4 ?c5 ?_)
        case c1 => exact two_new (set_size _ _ _) _ _ _
        case c2 => intro x hx; simp at hx; rcases hx with rfl | rfl <;> rfl
        case c3 => unfold maxLen; omega
        case c4 => omega
        case c5 => have := hkp2.size; rw [World.size_alloc]; omega
        intro vo w3 hown3 hgr hnil
        have hrow : ∀ q, u7.ownBlock = some q → w.heap.size ≤ q := fun q hq => (hown.lt q hq).1
        have hkp3 : Keep X w w3 := (hkp2.alloc _).grown hgr fun q hq => .inr (hrow q hq)
        have hch3 := (hR.alloc _).grown hgr fun q hq hx => by have := hrow q hq; have := h.lt q hx; omega
        have hk3 : cget (M'.set k'.toNat (some { n' with count := n'.count - 1 })) k' = some { n' with count := n'.count - 1 } := by rw [cget_set HK.out, if_pos rfl]
        obtain ⟨d0, d1, d2, d3, d4⟩ := run_look hch3
        obtain ⟨c0, c1, c2, c3, c4, c5, c6, c7, c8⟩ := hch3.cells hk3
        obtain ⟨_, w4, hrun, hch4, hkp4, hbl⟩ := hch3.gone (P := Try.prog) (ty := 0) Try.underlying56 Try.underlying3 hk3
        rw [List.set_set] at hch4
        clear hk3 hown hown2 hR d4
        have f0 : w4.cell? ⟨n'.blk, 0, none⟩ = some (.int .i64 n'.prev) := (World.cell?_of_block (w := w3) hbl).trans c0
        have f1 : n'.blk < w4.heap.size := Nat.lt_of_lt_of_le c7 hkp4.size
        have hkp5 : Keep X w w4 := hkp3.trans hkp4
        have hown5 : w4.ownsRow w.heap.size 31 2 vo (pre.length + 1) (refv pre ++ [.int .i64 n'.slot, .int .i64 n'.gen]) := keep_own hown3 hkp4 fun q hq hx => by have := h.lt q hx; omega
        have hcnt4 := cnt_set_none M' k'.toNat n' (cget_some HK.out).2.2
        have hms : msz wr mb = cnt M' := msz_of hch
        have hms4 : msz w4 mb = cnt (M'.set k'.toNat none) := msz_of hch4
        have HM := Lib.hid (And.intro hms (And.intro hms4 hcnt4))
        clear hbl hown3 hkp4 hms hms4 hcnt4
        go_wp2_with (go_at_call 23; refine (at_ok hch4 _).mono ?_; rintro e w5 ⟨rfl, rfl⟩)
        go_roundw
        case rel =>
          refine ⟨pre ++ [(n'.slot, n'.gen)], _, n'.prev, rfl, rfl, ?_, hch4, hkp5, ?_, ?_, ?_⟩
          · rw [refv_snoc, List.length_append]; exact hown5
          · intro q m hq
            rw [cget_set HK.out] at hq
            by_cases e : q = k'
            · rw [if_pos e] at hq; cases hq
            · rw [if_neg e] at hq; exact hct q m hq
          · rw [List.length_append]
            have := HM.out
            simp
            omega
          · intro out M'' hd
            have := hnext out M'' hd
            simpa using this
        case measure =>
          have := HM.out
          omega

end Go.Proofs.Ythflfafenehofaa
