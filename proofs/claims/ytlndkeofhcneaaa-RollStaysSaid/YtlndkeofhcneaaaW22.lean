/-
  All states of both rolls, as they lie in two rows.
-/
import Derived.Test.YtlndkeofhcneaaaW20
import Derived.StillTailTactics
import Derived.Deep.RegionHeld3
namespace Go.Proofs.Ytlndkeofhcneaaa
open Go.RowKit Go.Shelf

attribute [local go_sem] Oper.semAt_some

theorem app_gen {W : World} {B : Nat} {t e : TypeId} {N : Nat} {v : Value} {xs : List Value} {z : Value} {bytes : Nat} (ht : Try.prog.underlying t = some (.slice e))
    (hinfo : (Try.prog.info? e).map (fun i => (i.zero, i.size, i.bytes)) = some (some z, 1, bytes)) (hz : z.cells.size = 1) (hby : bytes ≤ 24) (h : W.ownsRow B e 1 v N xs) (x : Value) (hx : x.oneCell' = true) (hl : N ≤ 100) (hB : B ≤ W.heap.size) (ty : TypeId) :
    ∃ v' W', (Builtin.append_ #[t, t] ty #[v, .slice (some ⟨W.heap.size, 0, none⟩) 1 1]).run Try.prog (W.alloc (.cells #[x] e)) = .ok v' W' ∧ W'.ownsRow B e 1 v' (N + 1) (xs ++ [x]) ∧ KeepT (· = e) W W' ∧ Below B W W' := by
  obtain ⟨i0, hi, hz0, hz1, hz2⟩ := info_parts hinfo
  have hA : (W.alloc (.cells #[x] e)).ownsRow B e 1 v N xs := ownsRow_block h fun b hb => (below_alloc W _).block b (h.lt b hb).2
  obtain ⟨v', W', hrun, hown', hgr, _, hat⟩ := run_append_own_at (P := Try.prog) (W.alloc (.cells #[x] e)) B t ty e i0 z 1 bytes ht hi hz0 hz1 hz2 hz (by decide) _ N xs hA ⟨W.heap.size, 0, none⟩ 1 1 [x] rfl
    (fun j u hu => by
      match j, hu with
      | 0, hu => simp at hu; subst hu; simp [Addr.add, blk_cell (blk_new W (.cells #[x] e)) 0]) (fun u hu => by obtain rfl := List.mem_singleton.1 hu; exact hx) (by unfold maxLen; omega)
    (by have := Nat.mul_le_mul_left (N + 1) hby; omega) (by rw [World.size_alloc]; omega)
  have hrow : ∀ g, v.ownBlock = some g → ∃ C t, (W.alloc (.cells #[x] e)).heap[g]? = some (.cells C t) ∧ t = e := fun g hg => by
    rcases hA.2 with ⟨rfl, _⟩ | ⟨g', cap, cur, rfl, _, hh, _⟩
    · cases hg
    · cases hg
      exact ⟨_, _, hh, rfl⟩
  exact ⟨v', W', hrun, hown', (KeepT.of_below (below_alloc W _)).trans (KeepT.of_grown hgr hrow), (below_alloc W _).mono hB |>.trans (below_grown hgr (by rw [World.size_alloc]; omega) fun k hk => (h.lt k hk).1)⟩
theorem info24 : (Try.prog.info? 24).map (fun i => (i.zero, i.size, i.bytes)) = some (some (.pointer none), 1, 8) := by kernel_rfl
theorem info25 : (Try.prog.info? 25).map (fun i => (i.zero, i.size, i.bytes)) = some (some (.slice none 0 0), 1, 24) := by kernel_rfl

/-- One state of both. -/
structure ST where
  ptr : Option Addr
  lp : Option Addr
  lc : Nat
  C : List EN
  D : List EN
def ST.row (s : ST) : Value := .slice s.lp s.D.length s.lc

theorem Both.keep {T : TypeId → Prop} {W W' : World} {r lv : Value} {C D : List EN} (h : Both W r lv C D) (k : KeepT T W W') (h48 : ¬ T 48) (h58 : ¬ T 58) (h65 : ¬ T 65) : Both W' r lv C D := by
  obtain ⟨⟨v, h1⟩, h2, h3, h4⟩ := h
  exact ⟨⟨v, h1.keep k h48 h58 h65⟩, h2.keep k h48 h65, h3, h4⟩

/-- All states, in two rows of one's own. -/
structure All (B : Nat) (W : World) (vr vl : Value) (S : List ST) : Prop where
  rolls : W.ownsRow B 24 1 vr S.length (S.map fun s => .pointer s.ptr)
  rows : W.ownsRow B 25 1 vl S.length (S.map fun s => s.row)
  each : ∀ s ∈ S, Both W (.pointer s.ptr) s.row s.C s.D ∧ s.C.length ≤ S.length
theorem All.below {B : Nat} {W W' : World} {vr vl : Value} {S : List ST} (h : All B W vr vl S) (k : Below W.heap.size W W') : All B W' vr vl S :=
  ⟨ownsRow_block h.rolls fun b hb => k.block b (h.rolls.lt b hb).2, ownsRow_block h.rows fun b hb => k.block b (h.rows.lt b hb).2, fun s hs => ⟨(h.each s hs).1.below k, (h.each s hs).2⟩⟩
theorem own_cell {W : World} {B : Nat} {e : TypeId} {v : Value} {n : Nat} {xs : List Value} (h : W.ownsRow B e 1 v n xs) (hn : 0 < n) : ∃ g cap, v = .slice (some ⟨g, 0, none⟩) n cap ∧ B ≤ g ∧ g < W.heap.size ∧ ∀ k x, xs[k]? = some x → W.cell? ⟨g, k, none⟩ = some x := by
  have hv : ∃ g cap, v = .slice (some ⟨g, 0, none⟩) n cap := by
    rcases h.2 with ⟨_, h0⟩ | ⟨g, cap, cur, rfl, _⟩
    · omega
    · exact ⟨g, cap, rfl⟩
  obtain ⟨g, cap, rfl⟩ := hv
  obtain ⟨h1, h2⟩ := h.lt g rfl
  refine ⟨g, cap, rfl, h1, h2, fun k x hx => ?_⟩
  have hk := (List.getElem?_eq_some_iff.1 hx).1
  have hlen := h.1
  rw [h.cellAt k (by omega), hx]
/-- Two rows more by one. -/
theorem All.snoc {B : Nat} {W W1 W2 : World} {vr vl vr' vl' : Value} {S : List ST} {s : ST} (h : All B W vr vl S) (hs : Both W (.pointer s.ptr) s.row s.C s.D) (hl : s.C.length ≤ S.length + 1)
    (h1 : W1.ownsRow B 24 1 vr' (S.length + 1) ((S.map fun s => .pointer s.ptr) ++ [.pointer s.ptr])) (k1 : KeepT (· = 24) W W1) (h2 : W2.ownsRow B 25 1 vl' (S.length + 1) ((S.map fun s => s.row) ++ [s.row])) (k2 : KeepT (· = 25) W1 W2) :
    All B W2 vr' vl' (S ++ [s]) := by
  refine ⟨?_, ?_, fun x hx => ?_⟩
  · rw [List.length_append, List.map_append]
    exact ownsRow_keep h1 k2 (by decide)
  · rw [List.length_append, List.map_append]
    exact h2
  · rw [List.length_append, List.length_singleton]
    rcases List.mem_append.1 hx with hx | hx
    · exact ⟨((h.each x hx).1.keep k1 (by decide) (by decide) (by decide)).keep k2 (by decide) (by decide) (by decide), Nat.le_trans (h.each x hx).2 (by omega)⟩
    · obtain rfl := List.mem_singleton.1 hx
      exact ⟨(hs.keep k1 (by decide) (by decide) (by decide)).keep k2 (by decide) (by decide) (by decide), hl⟩

/-- What the round's end does: the result's cells are set, both rows grow by one. -/
theorem tail_facts {B : Nat} {W W7 : World} {b14 : Nat} {x0 x1 vr vl : Value} {S : List ST} {p lp : Option Addr} {lc : Nat} {C' D' : List EN} {ok : Bool} (hA : All B W vr vl S) (hz : W.heap[b14]? = some (.cells #[x0, x1] 33)) (hB : B ≤ b14)
    (hb : Both W (.pointer p) (.slice lp D'.length lc) C' D') (hl : C'.length ≤ S.length + 1) (hS : S.length ≤ 40) (hBW : B ≤ W.heap.size)
    (e7 : (W.setCell ⟨b14, 0, none⟩ (.slice lp D'.length lc)).setCell ⟨b14, 1, none⟩ (.bool ok) = W7) :
    ∃ vr' W8 vl' W9, (Builtin.append_ #[44, 44] 44 #[vr, .slice (some ⟨W7.heap.size, 0, none⟩) 1 1]).run Try.prog (W7.alloc (.cells #[.pointer p] 24)) = .ok vr' W8 ∧
      (W8.cell? ⟨b14, 0, none⟩ = some (.slice lp D'.length lc) ∧ b14 < W8.heap.size) ∧
      (Builtin.append_ #[45, 45] 45 #[vl, .slice (some ⟨W8.heap.size, 0, none⟩) 1 1]).run Try.prog (W8.alloc (.cells #[.slice lp D'.length lc] 25)) = .ok vl' W9 ∧
      All B W9 vr' vl' (S ++ [⟨p, lp, lc, C', D'⟩]) ∧ Below B W W9 := by
  have k7 : KeepT (· = 33) W W7 := by rw [← e7]; exact keep_sets2 hz _ _
  have z7 : W7.heap[b14]? = some (.cells #[.slice lp D'.length lc, .bool ok] 33) := by
    rw [← e7]
    exact blk_set (blk_set hz 0 _) 1 _
  have b7 : Below B W W7 := by
    rw [← e7]
    exact below_sets2 (Below.refl _ _) hB _ _
  obtain ⟨vr', W8, run1, own1, k8, b8⟩ := app_gen (W := W7) Try.underlying44 info24 rfl (by omega) (ownsRow_keep hA.rolls k7 (by decide)) (.pointer p) rfl (by omega) (Nat.le_trans hBW k7.size) 44
  have z8 := k8.block _ _ _ z7 (by decide)
  obtain ⟨vl', W9, run2, own2, k9, b9⟩ := app_gen (W := W8) Try.underlying45 info25 rfl (by omega) (ownsRow_keep (ownsRow_keep hA.rows k7 (by decide)) k8 (by decide)) (.slice lp D'.length lc) rfl (by omega) (Nat.le_trans (Nat.le_trans hBW k7.size) k8.size) 45
  have hA7 : All B W7 vr vl S := ⟨ownsRow_keep hA.rolls k7 (by decide), ownsRow_keep hA.rows k7 (by decide), fun s hs => ⟨(hA.each s hs).1.keep k7 (by decide) (by decide) (by decide), (hA.each s hs).2⟩⟩
  exact ⟨vr', W8, vl', W9, run1, ⟨blk_cell z8 0, blk_lt z8⟩, run2, hA7.snoc (s := ⟨p, lp, lc, C', D'⟩) (hb.keep k7 (by decide) (by decide) (by decide)) hl own1 k8 own2 k9, (b7.trans b8).trans b9⟩

end Go.Proofs.Ytlndkeofhcneaaa
