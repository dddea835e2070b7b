/-
  The walk of Sets.
-/
import Derived.Test.YthflfafenehofaaW5
namespace Go.Proofs.Ythflfafenehofaa
open Go.RowKit Go.Shelf

attribute [local go_sem] Oper.semAt_some

set_option maxHeartbeats 1000000 in
theorem back_in (n : Nat) (v : Option Addr) (k : Int) (w : World) :
    CallsIn Fence.wide n Try.prog 25 #[.pointer v, .int .i64 k] w fun e w' => e = .returned (.func (.func 33) #[] #[.pointer (some ⟨w.heap.size, 0, none⟩), .pointer (some ⟨w.heap.size + 1, 0, none⟩)]) ∧ (w.alloc (.cells #[.pointer v] 24)).alloc (.cells #[.int .i64 k] 3) = w' := by
  refine callsIn_of_wp Try.func25 rfl trivial ?_ rfl
  simp only [Try.ntmps25, List.size_toArray, List.length_cons, List.length_nil, Nat.reduceAdd, Nat.reduceSub, Array.replicate_succ, Array.replicate_zero, List.push_toArray, List.append_toArray, List.nil_append, List.cons_append]
  gi_wp2
  go_ret
  exact ⟨rfl, rfl⟩

theorem back1_stops (n : Nat) (hn : 2 ≤ n) (Bc Bk : Nat) {X K : Nat → Prop} {c mb : Nat} {M : CS} (k : Int) (xs : List CN) (hX : ∀ i, X i → K i) (hP : Path M k xs) (w : World) (hBc : K Bc)
    (hc : w.cell? ⟨Bc, 0, none⟩ = some (.pointer (some ⟨c, 0, none⟩))) (hk : w.cell? ⟨Bk, 0, none⟩ = some (.int .i64 k)) (h : IsChain X w c mb M) :
    SeqStopsK Fence.wide n Try.prog 33 #[.pointer (some ⟨Bc, 0, none⟩), .pointer (some ⟨Bk, 0, none⟩)] (fun x : {x : CN // x ∈ xs} => #[.pointer (some ⟨x.1.blk, 0, none⟩)]) (Held K) (fun ys => ys = xs.attach) (fun pre => pre <+: xs.attach) xs.length w :=
  fun l J Jx W hW hJ _ hY h0 => back1_in n hn l Bc Bk k xs hX hP J Jx (fun s A m hs => hJ s A _ none hs ⟨rfl, rfl, rfl, Nat.le_refl _, fun _ _ _ => rfl⟩ (fun r e => by cases e)) hY W hBc
    ((hW.cell (p := ⟨Bc, 0, none⟩) (World.block_lt_of_cell? w _ hc)).trans hc) ((hW.cell (p := ⟨Bk, 0, none⟩) (World.block_lt_of_cell? w _ hk)).trans hk) (h.belowN h.lt hW) h0

/-! ### rows that are being made -/
def zrow (n : Nat) : Array Value := madeCells #[.slice none 0 0] n
theorem zrow_size (n : Nat) : (zrow n).size = n := size_madeCells _ _
theorem zrow_get (n i : Nat) (h : i < n) : (zrow n)[i]? = some (.slice none 0 0) := by
  have e : zrow n = Array.replicate n (.slice none 0 0) := by
    apply Array.ext
    · simp [zrow, madeCells]
    · intro j h1 h2
      simp [zrow, madeCells, Nat.mod_one]
  rw [e]
  simp [h]

/-- A row of one's own: nil, or in a block from B on. -/
def OutRow (B g0 : Nat) (W : World) (v : Value) (xs : List Int) : Prop :=
  (v = .slice none 0 0 ∧ xs = []) ∨ ∃ g cap, v = .slice (some ⟨g, 0, none⟩) xs.length cap ∧ xs ≠ [] ∧ (B ≤ g ∧ g ≠ g0) ∧ ∀ j x, xs[j]? = some x → W.cell? ⟨g, j, none⟩ = some (.int .i64 x)
/-- Rows of one's own, in block g. -/
def OutRows (B g : Nat) (W : World) (xss : List (List Int)) : Prop :=
  ∃ C : Array Value, W.heap[g]? = some (.cells C 22) ∧ C.size = xss.length ∧ ∀ (i : Nat) (xs : List Int), xss[i]? = some xs → ∃ v : Value, C[i]? = some v ∧ OutRow B g W v xs

/-- Blocks of cells are as they were, but perhaps one. -/
theorem OutRow.kept {B g0 : Nat} {W W' : World} {v : Value} {xs : List Int} (h : OutRow B g0 W v xs) (hc : ∀ (b i : Nat) (u : Value), B ≤ b → b ≠ g0 → W.cell? ⟨b, i, none⟩ = some u → v.ownBlock = some b → W'.cell? ⟨b, i, none⟩ = some u) : OutRow B g0 W' v xs := by
  rcases h with h | ⟨g, cap, rfl, hne, hg, hx⟩
  · exact .inl h
  · exact .inr ⟨g, cap, rfl, hne, hg, fun j x hj => hc g j _ hg.1 hg.2 (hx j x hj) rfl⟩

theorem cells_kept {A B' : World} {row : Option Nat} (hg : A.grownBy B' row) (hr : ∀ r, row = some r → ∃ o : Obj, A.heap[r]? = some o ∧ o.isCells = false) {b : Nat} {C : Array Value} {t : TypeId} {f : Nat × Nat} (h : A.heap[b]? = some (.cells C t f)) : B'.heap[b]? = some (.cells C t f) :=
  (hg.block b (Array.getElem?_eq_some_iff.1 h).1 (fun e => by
    obtain ⟨o, ho, hc⟩ := hr b e.symm
    rw [h] at ho; cases ho; cases hc)).trans h
theorem cell_cells {W : World} {b i : Nat} {u : Value} (h : W.cell? ⟨b, i, none⟩ = some u) : ∃ C t f, W.heap[b]? = some (.cells C t f) := by
  unfold World.cell? at h
  split at h
  · rename_i c t f hb; exact ⟨c, t, f, hb⟩
  · cases h

theorem outRows_own {β : Type} (B g : Nat) (f : β → List (List Int)) : Own (fun s W => OutRows B g W (f s)) := by
  rintro s X Y row ⟨C, hC, hs, hall⟩ hg hrow
  refine ⟨C, cells_kept hg hrow hC, hs, fun i xs hi => ?_⟩
  obtain ⟨v, hv, ho⟩ := hall i xs hi
  refine ⟨v, hv, ho.kept fun b i u _ _ hu _ => ?_⟩
  obtain ⟨C', t, ff, hb⟩ := cell_cells hu
  exact (World.cell?_of_block (w := X) (a := ⟨b, i, none⟩) ((cells_kept hg hrow hb).trans hb.symm)).trans hu

/-- What Sets tells. -/
def putS (out : List (List Int)) (n : CN) : List (List Int) := out.modify n.cell.toNat (n.num :: ·)
def setsS (m : Nat) (xs : List CN) : List (List Int) := xs.foldl putS (List.replicate m [])
theorem setsS_snoc (m : Nat) (xs : List CN) (n : CN) : setsS m (xs ++ [n]) = putS (setsS m xs) n := by simp [setsS]
theorem setsS_length (m : Nat) (xs : List CN) : (setsS m xs).length = m := by
  unfold setsS
  have : ∀ (xs : List CN) (out : List (List Int)), (xs.foldl putS out).length = out.length := by
    intro xs
    induction xs with
    | nil => intro out; rfl
    | cons n xs ih => intro out; simp [ih, putS]
  rw [this]; simp

theorem info3 : (Try.prog.info? 3).map (fun i => (i.zero, i.size, i.bytes)) = some (some (.int .i64 0), 1, 8) := by kernel_rfl

/-- 'append([]int{x}, row...)': the literal in the newest block, the row one's own. -/
theorem app_row {B g0 : Nat} {W : World} {vi : Value} {ys : List Int} (x : Int) (h : OutRow B g0 W vi ys) (hB : B ≤ W.heap.size) (hg : g0 < W.heap.size) (hl : ys.length ≤ 1000000) (ty : TypeId) :
    ∃ v' w', (Builtin.append_ #[22, 22] ty #[.slice (some ⟨W.heap.size, 0, none⟩) 1 1, vi]).run Try.prog (W.alloc (.cells #[.int .i64 x] 3)) = .ok v' w' ∧ OutRow B g0 w' v' (x :: ys) ∧ (W.alloc (.cells #[.int .i64 x] 3)).grownBy w' (some W.heap.size) := by
  obtain ⟨i0, hi, hz0, hz1, hz2⟩ := info_parts info3
  have hown : (W.alloc (.cells #[.int .i64 x] 3)).ownsRow W.heap.size 3 1 (.slice (some ⟨W.heap.size, 0, none⟩) 1 1) 1 [.int .i64 x] :=
    ⟨rfl, .inr ⟨W.heap.size, 1, #[.int .i64 x], rfl, Nat.le_refl _, blk_new _ _, Nat.le_refl _, by unfold maxLen; omega, rfl, rfl⟩⟩
  rcases h with ⟨rfl, rfl⟩ | ⟨g, cap, rfl, hne, hg', hx⟩
  · refine ⟨_, _, run_append_owned_none (P := Try.prog) (w := W.alloc (.cells #[.int .i64 x] 3)) W.heap.size 22 ty 3 i0 1 Try.underlying22 hi _ 1 _ hown, .inr ⟨W.heap.size, 1, rfl, by simp, ⟨hB, by omega⟩, fun j u hj => ?_⟩, World.grownBy.refl _ _⟩
    match j, hj with
    | 0, hj => simp at hj; subst hj; simp
  · obtain ⟨v', w', hrun, hown', hgr, _⟩ := run_append_own (P := Try.prog) (w := W.alloc (.cells #[.int .i64 x] 3)) W.heap.size 22 ty 3 i0 (.int .i64 0) 1 8 Try.underlying22 hi hz0 hz1 hz2 rfl (by decide) _ 1 _ hown ⟨g, 0, none⟩ ys.length cap (ys.map (.int .i64 ·)) (by simp)
      (fun j u hj => by
        rw [List.getElem?_map] at hj
        obtain ⟨y, hy, rfl⟩ := Option.map_eq_some_iff.1 hj
        have h1 := hx j y hy
        have h2 := World.cell?_alloc_lt W (.cells #[.int .i64 x] 3) ⟨g, j, none⟩ (World.block_lt_of_cell? W _ h1)
        rw [show (⟨g, 0, none⟩ : Addr).add j = ⟨g, j, none⟩ from by cases j <;> simp [Addr.add]]
        exact h2.trans h1)
      (fun u hu => by obtain ⟨y, _, rfl⟩ := List.mem_map.1 hu; rfl) (by unfold maxLen; omega) (by omega) (by simp)
    refine ⟨v', w', hrun, ?_, by simpa [Value.ownBlock] using hgr⟩
    obtain ⟨hlen, ⟨_, h0⟩ | ⟨g2, cap2, cur, rfl, hg2, hb2, _, _, hcur, htake⟩⟩ := hown'
    · omega
    · refine .inr ⟨g2, cap2, by rw [show 1 + ys.length = (x :: ys).length from by simp; omega], by simp, ⟨by omega, by omega⟩, fun j u hj => ?_⟩
      rw [blk_cell hb2 j]
      have : (cur.toList.take ((1 + ys.length) * 1))[j]? = some (.int .i64 u) := by
        rw [htake]
        cases j with
        | zero => simpa using hj
        | succ j => simpa using hj
      rw [List.getElem?_take] at this
      split at this
      · simpa using this
      · cases this

theorem sets_row_le (m : Nat) : ∀ (l : List CN) {i : Nat} {ys : List Int}, (setsS m l)[i]? = some ys → ys.length ≤ l.length := by
  intro l
  have key : ∀ (l : List CN) (out : List (List Int)) (b : Nat), (∀ (i : Nat) (ys : List Int), out[i]? = some ys → ys.length ≤ b) → ∀ (i : Nat) (ys : List Int), (l.foldl putS out)[i]? = some ys → ys.length ≤ b + l.length := by
    intro l
    induction l with
    | nil => intro out b h i ys hy; exact h i ys hy
    | cons n l ih =>
      intro out b h i ys hy
      have := ih (putS out n) (b + 1) (fun j zs hz => by
        unfold putS at hz
        rw [List.getElem?_modify] at hz
        obtain ⟨z, hz1, rfl⟩ := Option.map_eq_some_iff.1 hz
        have := h j z hz1
        split <;> simp <;> omega) i ys hy
      simp; omega
  intro i ys hy
  have := key l (List.replicate m []) 0 (fun i ys hy => by
    rw [List.getElem?_replicate] at hy
    split at hy
    · injection hy with hy; subst hy; simp
    · cases hy) i ys hy
  omega

theorem info22 : (Try.prog.info? 22).map (fun i => (i.zero, i.size, i.bytes)) = some (some (.slice none 0 0), 1, 24) := by kernel_rfl

set_option maxHeartbeats 1000000 in
set_option maxRecDepth 100000 in
theorem sets_some {X : Nat → Prop} {w : World} {c mb : Nat} {M : CS} (h : IsChain X w c mb M) (k : Int) (n0 : CN) (xs : List CN) (hk : cget M k = some n0) (hP : Path M k xs)
    (hcell : ∀ n ∈ xs, 0 ≤ n.cell ∧ n.cell ≤ n0.cell) (m : Nat) (hm : n0.cell + 1 = (m : Int)) (hm2 : m ≤ 1000) (hlen : xs.length ≤ 1000000) :
    CallsIn Fence.wide 9 Try.prog 13 #[.pointer (some ⟨c, 0, none⟩), .int .i64 k] w fun e w' => ∃ v, e = .returned v ∧ IsRows (fun b => w.heap.size ≤ b) w' v (setsS m xs) ∧ Below w.heap.size w w' := by
  have e1 : ptrOf (cget M k) = .pointer (some ⟨n0.blk, 0, none⟩) := by rw [hk]; rfl
  obtain ⟨c0, c1, c2, c3, c4, c5, c6, c7, c8⟩ := h.cells hk
  have h23 := wide_fn 23
  have h13 := wide_fn 13
  have h25 := wide_fn 25
  have h33 := wide_fn 33
  obtain ⟨i0, hi, hz0, hz1, hz2⟩ := info_parts info22
  have hmk : ∀ W : World, (Instr.makeSlice 26 (.int .i64 (n0.cell + 1)) (.int .i64 (n0.cell + 1))).run Try.prog W = .ok (.slice (some ⟨W.heap.size, 0, none⟩) m m) (W.alloc (.cells (zrow m) 22)) := by
    intro W
    have := run_make (P := Try.prog) W 26 22 i0 _ Try.underlying26 hi hz0 .i64 .i64 (n0.cell + 1) (n0.cell + 1) (by omega) (by omega) (by rw [hz2]; omega) (by omega)
    rw [this, hz1, hm]
    simp [zrow, Value.cells]
  have hc5 : n0.cell ≤ 1000 := by omega
  have hc6 : 0 ≤ n0.cell := (hcell n0 (by cases hP with | nil h' => rw [hk] at h'; cases h' | cons h' _ => rw [hk] at h'; injection h' with h'; subst h'; simp)).1
  have HM := Lib.hid hm
  have HK := Lib.hid hk
  clear hm hk hi hz0 hz1 hz2
  refine callsIn_of_wp_marks Try.func13 rfl h13 ?_ rfl
  simp only [Try.ntmps13, List.size_toArray, List.length_cons, List.length_nil, Nat.reduceAdd, Nat.reduceSub, Array.replicate_succ, Array.replicate_zero, List.push_toArray, List.append_toArray, List.nil_append, List.cons_append]
  gi_wp2_with (first | (gi_at_call 23; refine (at_in _ h k).mono ?_; rintro e w1 ⟨rfl, rfl⟩) | (gi_at_call 25; refine (back_in _ _ k _).mono ?_; rintro e w1 ⟨rfl, rfl⟩))
  have hW : ((((w.alloc (.cells (zrow m) 22)).alloc (.cells #[.slice (some ⟨w.heap.size, 0, none⟩) m m] 26)).alloc (.cells #[.pointer (some ⟨c, 0, none⟩)] 24)).alloc (.cells #[.int .i64 k] 3)).heap.size = w.heap.size + 4 := by simp
  have hG := blk_alloc (blk_alloc (blk_alloc (blk_new w (.cells (zrow m) 22)) (.cells #[.slice (some ⟨w.heap.size, 0, none⟩) m m] 26)) (.cells #[.pointer (some ⟨c, 0, none⟩)] 24)) (.cells #[.int .i64 k] 3)
  have hBo := ((Boxed.new (w.alloc (.cells (zrow m) 22)) 26 (.slice (some ⟨w.heap.size, 0, none⟩) m m)).alloc (.cells #[.pointer (some ⟨c, 0, none⟩)] 24)).alloc (.cells #[.int .i64 k] 3)
  have hBc := (Boxed.new ((w.alloc (.cells (zrow m) 22)).alloc (.cells #[.slice (some ⟨w.heap.size, 0, none⟩) m m] 26)) 24 (.pointer (some ⟨c, 0, none⟩))).alloc (.cells #[.int .i64 k] 3)
  have hBk := Boxed.new (((w.alloc (.cells (zrow m) 22)).alloc (.cells #[.slice (some ⟨w.heap.size, 0, none⟩) m m] 26)).alloc (.cells #[.pointer (some ⟨c, 0, none⟩)] 24)) 3 (.int .i64 k)
  simp only [World.size_alloc] at hBo hBc hBk
  have hB0 : Below w.heap.size w ((((w.alloc (.cells (zrow m) 22)).alloc (.cells #[.slice (some ⟨w.heap.size, 0, none⟩) m m] 26)).alloc (.cells #[.pointer (some ⟨c, 0, none⟩)] 24)).alloc (.cells #[.int .i64 k] 3)) := ((((Below.refl _ w).alloc (Nat.le_refl _) _).alloc (by simp) _).alloc (by simp; omega) _).alloc (by simp; omega) _
  obtain ⟨W0, hW0⟩ : ∃ W0, ((((w.alloc (.cells (zrow m) 22)).alloc (.cells #[.slice (some ⟨w.heap.size, 0, none⟩) m m] 26)).alloc (.cells #[.pointer (some ⟨c, 0, none⟩)] 24)).alloc (.cells #[.int .i64 k] 3)) = W0 := ⟨_, rfl⟩
  rw [hW0] at hW hG hBo hBc hBk hB0 ⊢
  clear hW0
  have hout0 : OutRows w.heap.size w.heap.size W0 (setsS m []) := ⟨zrow m, hG, by rw [zrow_size, setsS_length], fun i ys hy => by
    have hi : i < m := by have := (List.getElem?_eq_some_iff.1 hy).1; rwa [setsS_length] at this
    refine ⟨_, zrow_get m i hi, .inl ⟨rfl, ?_⟩⟩
    simp [setsS, hi] at hy
    exact hy⟩
  have hch0 := h.belowN h.lt hB0
  have hX : ∀ i, X i → (i < w.heap.size ∨ i = w.heap.size + 1 + 1 ∨ i = w.heap.size + 1 + 1 + 1) := fun i hi => .inl (h.lt i hi)
  have hKlt : ∀ i, (i < w.heap.size ∨ i = w.heap.size + 1 + 1 ∨ i = w.heap.size + 1 + 1 + 1) → i < W0.heap.size := fun i hi => by omega
  refine wpIn_rangeFunc_ownF rfl (by omega) (gf := 33) (lb := #[.pointer (some ⟨w.heap.size + 1 + 1, 0, none⟩), .pointer (some ⟨w.heap.size + 1 + 1 + 1, 0, none⟩)]) rfl h33 (enters_of Try.func33 (by kernel_rfl) rfl)
    (back1_stops 8 (by omega) (w.heap.size + 1 + 1) (w.heap.size + 1 + 1 + 1) k xs hX hP W0 (.inr (.inl rfl)) hBc.cell hBk.cell hch0) (fun h k => h.trans k) (held_b hKlt) (Below.refl _ _) (fun _ => rfl)
    (fun pre W => (Boxed W (w.heap.size + 1) 26 (.slice (some ⟨w.heap.size, 0, none⟩) m m) ∧ OutRows w.heap.size w.heap.size W (setsS m (pre.map (·.1)))) ∧ Below w.heap.size w W)
    (fun _ _ _ => False)
    (OwnFrom.and (OwnFrom.and (Own.from (boxed_own _ _ _) _) (Own.from (outRows_own _ _ _) _)) (ownFrom_below (Nat.le_refl _) (by omega)))
    (fun _ _ _ _ _ hs _ _ => hs)
    ⟨⟨hBo, hout0⟩, hB0⟩
    (fun x => { tmps := #[.pointer (some ⟨c, 0, none⟩), .int .i64 k, undef, undef, .slice none 0 0, .pointer (some ⟨n0.blk, 0, none⟩), .pointer (some ⟨w.heap.size + 1, 0, none⟩), .pointer (some ⟨x.1.blk, 0, none⟩),
      .pointer (some ⟨c, 0, none⟩), .int .i64 k, .pointer (some ⟨n0.blk, 0, none⟩), .pointer (some ⟨n0.blk, 0, none⟩), .bool false, .pointer (some ⟨n0.blk, 0, none⟩), .pointer (some ⟨n0.blk, 0, none⟩), .pointer (some ⟨n0.blk, 1, none⟩),
      .int .i64 n0.cell, .int .i64 (n0.cell + 1), .slice (some ⟨w.heap.size, 0, none⟩) m m, .pointer (some ⟨c, 0, none⟩), .int .i64 k,
      .func (.func 33) #[] #[.pointer (some ⟨w.heap.size + 1 + 1, 0, none⟩), .pointer (some ⟨w.heap.size + 1 + 1 + 1, 0, none⟩)],
      .pointer (some ⟨x.1.blk, 0, none⟩), undef, undef, undef, undef, undef, undef, undef, undef, undef, undef, undef, undef, undef, undef, undef, undef, undef, undef, undef, undef], defers := [] })
    ?assign ?body ?done ?stop
  case assign =>
    intro l x W K hK
    gi_wp2
    exact hK
  case body =>
    rintro l pre x W ⟨⟨hb, hr⟩, hbel⟩ hlt
    obtain ⟨q, hq⟩ := hP.mem x.1 x.2
    obtain ⟨hx0, hx1⟩ := hcell x.1 x.2
    obtain ⟨i, hi⟩ : ∃ i : Nat, x.1.cell = (i : Int) := ⟨x.1.cell.toNat, by omega⟩
    have him : i < m := by have := HM.out; omega
    obtain ⟨C, hC, hCs, hall⟩ := hr
    rw [setsS_length] at hCs
    obtain ⟨ys, hys⟩ : ∃ ys, (setsS m (pre.map (·.1)))[i]? = some ys := ⟨_, List.getElem?_eq_getElem (by rw [setsS_length]; exact him)⟩
    obtain ⟨vi, hvi, hrow⟩ := hall i ys hys
    have hch := h.belowN h.lt hbel
    obtain ⟨a0, a1, a2, a3, a4, a5, a6, a7, a8⟩ := hch.cells hq
    rw [hi] at a1
    have hgi : W.cell? ⟨w.heap.size, i, none⟩ = some vi := (blk_cell hC i).trans hvi
    have hgl := blk_lt hC
    have hbc := hb.cell
    have hbl := hb.lt
    have HI := Lib.hid hi
    clear hi
    dsimp only
    gi_wp2
    refine region_goes' (F := Fence.wide.inRound l) (n := 7) (S := fun w' => w'.cell? ⟨w.heap.size + 1, 0, none⟩ = some (.slice (some ⟨w.heap.size, 0, none⟩) m m) ∧ w'.cell? ⟨x.1.blk, 1, none⟩ = some (.int .i64 (i : Int)) ∧ w'.cell? ⟨x.1.blk, 2, none⟩ = some (.int .i64 x.1.num) ∧
      w'.cell? ⟨w.heap.size, i, none⟩ = some vi ∧ x.1.blk < w'.heap.size ∧ w.heap.size + 1 < w'.heap.size) (last := 19) 20 (l := #[false, false, false, false, false, false, false, false, false, false, false, false, false, false, false, false, false, false, false, false]) (fun _ => trivial) (by kernel_rfl) (by kernel_rfl) rfl rfl ?_
    have hS : W.drew.cell? ⟨w.heap.size + 1, 0, none⟩ = some (.slice (some ⟨w.heap.size, 0, none⟩) m m) ∧ W.drew.cell? ⟨x.1.blk, 1, none⟩ = some (.int .i64 (i : Int)) ∧ W.drew.cell? ⟨x.1.blk, 2, none⟩ = some (.int .i64 x.1.num) ∧
      W.drew.cell? ⟨w.heap.size, i, none⟩ = some vi ∧ x.1.blk < W.drew.heap.size ∧ w.heap.size + 1 < W.drew.heap.size := ⟨hbc, a1, a2, hgi, a7, hbl⟩
    refine goes_take' (i := 0) (d := some 23) (v := .slice (some ⟨w.heap.size, 0, none⟩) m m) (l' := #[true, false, false, false, false, false, false, false, false, false, false, false, false, false, false, false, false, false, false, false]) rfl (by kernel_rfl) (by kernel_rfl) (by kernel_rfl) (by kernel_rfl) rfl rfl (.inl ⟨rfl, fun w' hs => ?_⟩) hS ?_
    · obtain ⟨s0, s1, s2, s3, s4, s5⟩ := hs
      go_simp
    simp only [Act.put, List.setIfInBounds_toArray, List.set_cons_zero, List.set_cons_succ]
    refine goes_take' (i := 1) (d := some 24) (v := .pointer (some ⟨x.1.blk, 0, none⟩)) (l' := #[true, true, false, false, false, false, false, false, false, false, false, false, false, false, false, false, false, false, false, false]) rfl (by kernel_rfl) (by kernel_rfl) (by kernel_rfl) (by kernel_rfl) rfl rfl (.inl ⟨rfl, fun w' hs => ?_⟩) hS ?_
    · obtain ⟨s0, s1, s2, s3, s4, s5⟩ := hs
      go_simp
    simp only [Act.put, List.setIfInBounds_toArray, List.set_cons_zero, List.set_cons_succ]
    refine goes_take' (i := 2) (d := some 25) (v := .pointer (some ⟨x.1.blk, 0, none⟩)) (l' := #[true, true, true, false, false, false, false, false, false, false, false, false, false, false, false, false, false, false, false, false]) rfl (by kernel_rfl) (by kernel_rfl) (by kernel_rfl) (by kernel_rfl) rfl rfl (.inl ⟨rfl, fun w' hs => ?_⟩) hS ?_
    · obtain ⟨s0, s1, s2, s3, s4, s5⟩ := hs
      go_simp
    simp only [Act.put, List.setIfInBounds_toArray, List.set_cons_zero, List.set_cons_succ]
    refine goes_take' (i := 3) (d := some 26) (v := .pointer (some ⟨x.1.blk, 1, none⟩)) (l' := #[true, true, true, true, false, false, false, false, false, false, false, false, false, false, false, false, false, false, false, false]) rfl (by kernel_rfl) (by kernel_rfl) (by kernel_rfl) (by kernel_rfl) rfl rfl (.inl ⟨rfl, fun w' hs => ?_⟩) hS ?_
    · obtain ⟨s0, s1, s2, s3, s4, s5⟩ := hs
      go_simp
    simp only [Act.put, List.setIfInBounds_toArray, List.set_cons_zero, List.set_cons_succ]
    refine goes_take' (i := 4) (d := some 27) (v := .int .i64 (i : Int)) (l' := #[true, true, true, true, true, false, false, false, false, false, false, false, false, false, false, false, false, false, false, false]) rfl (by kernel_rfl) (by kernel_rfl) (by kernel_rfl) (by kernel_rfl) rfl rfl (.inl ⟨rfl, fun w' hs => ?_⟩) hS ?_
    · obtain ⟨s0, s1, s2, s3, s4, s5⟩ := hs
      go_simp
    simp only [Act.put, List.setIfInBounds_toArray, List.set_cons_zero, List.set_cons_succ]
    refine goes_take' (i := 5) (d := some 28) (v := .pointer (some ⟨x.1.blk, 0, none⟩)) (l' := #[true, true, true, true, true, true, false, false, false, false, false, false, false, false, false, false, false, false, false, false]) rfl (by kernel_rfl) (by kernel_rfl) (by kernel_rfl) (by kernel_rfl) rfl rfl (.inl ⟨rfl, fun w' hs => ?_⟩) hS ?_
    · obtain ⟨s0, s1, s2, s3, s4, s5⟩ := hs
      go_simp
    simp only [Act.put, List.setIfInBounds_toArray, List.set_cons_zero, List.set_cons_succ]
    refine goes_take' (i := 6) (d := some 29) (v := .pointer (some ⟨x.1.blk, 0, none⟩)) (l' := #[true, true, true, true, true, true, true, false, false, false, false, false, false, false, false, false, false, false, false, false]) rfl (by kernel_rfl) (by kernel_rfl) (by kernel_rfl) (by kernel_rfl) rfl rfl (.inl ⟨rfl, fun w' hs => ?_⟩) hS ?_
    · obtain ⟨s0, s1, s2, s3, s4, s5⟩ := hs
      go_simp
    simp only [Act.put, List.setIfInBounds_toArray, List.set_cons_zero, List.set_cons_succ]
    refine goes_take' (i := 7) (d := some 30) (v := .pointer (some ⟨x.1.blk, 2, none⟩)) (l' := #[true, true, true, true, true, true, true, true, false, false, false, false, false, false, false, false, false, false, false, false]) rfl (by kernel_rfl) (by kernel_rfl) (by kernel_rfl) (by kernel_rfl) rfl rfl (.inl ⟨rfl, fun w' hs => ?_⟩) hS ?_
    · obtain ⟨s0, s1, s2, s3, s4, s5⟩ := hs
      go_simp
    simp only [Act.put, List.setIfInBounds_toArray, List.set_cons_zero, List.set_cons_succ]
    refine goes_take' (i := 8) (d := some 31) (v := .int .i64 x.1.num) (l' := #[true, true, true, true, true, true, true, true, true, false, false, false, false, false, false, false, false, false, false, false]) rfl (by kernel_rfl) (by kernel_rfl) (by kernel_rfl) (by kernel_rfl) rfl rfl (.inl ⟨rfl, fun w' hs => ?_⟩) hS ?_
    · obtain ⟨s0, s1, s2, s3, s4, s5⟩ := hs
      go_simp
    simp only [Act.put, List.setIfInBounds_toArray, List.set_cons_zero, List.set_cons_succ]
    refine goes_take' (i := 10) (d := some 33) (v := .slice (some ⟨w.heap.size, 0, none⟩) m m) (l' := #[true, true, true, true, true, true, true, true, true, false, true, false, false, false, false, false, false, false, false, false]) rfl (by kernel_rfl) (by kernel_rfl) (by kernel_rfl) (by kernel_rfl) rfl rfl (.inl ⟨rfl, fun w' hs => ?_⟩) hS ?_
    · obtain ⟨s0, s1, s2, s3, s4, s5⟩ := hs
      go_simp
    simp only [Act.put, List.setIfInBounds_toArray, List.set_cons_zero, List.set_cons_succ]
    refine goes_take' (i := 11) (d := some 34) (v := .pointer (some ⟨x.1.blk, 0, none⟩)) (l' := #[true, true, true, true, true, true, true, true, true, false, true, true, false, false, false, false, false, false, false, false]) rfl (by kernel_rfl) (by kernel_rfl) (by kernel_rfl) (by kernel_rfl) rfl rfl (.inl ⟨rfl, fun w' hs => ?_⟩) hS ?_
    · obtain ⟨s0, s1, s2, s3, s4, s5⟩ := hs
      go_simp
    simp only [Act.put, List.setIfInBounds_toArray, List.set_cons_zero, List.set_cons_succ]
    refine goes_take' (i := 12) (d := some 35) (v := .pointer (some ⟨x.1.blk, 0, none⟩)) (l' := #[true, true, true, true, true, true, true, true, true, false, true, true, true, false, false, false, false, false, false, false]) rfl (by kernel_rfl) (by kernel_rfl) (by kernel_rfl) (by kernel_rfl) rfl rfl (.inl ⟨rfl, fun w' hs => ?_⟩) hS ?_
    · obtain ⟨s0, s1, s2, s3, s4, s5⟩ := hs
      go_simp
    simp only [Act.put, List.setIfInBounds_toArray, List.set_cons_zero, List.set_cons_succ]
    refine goes_take' (i := 13) (d := some 36) (v := .pointer (some ⟨x.1.blk, 1, none⟩)) (l' := #[true, true, true, true, true, true, true, true, true, false, true, true, true, true, false, false, false, false, false, false]) rfl (by kernel_rfl) (by kernel_rfl) (by kernel_rfl) (by kernel_rfl) rfl rfl (.inl ⟨rfl, fun w' hs => ?_⟩) hS ?_
    · obtain ⟨s0, s1, s2, s3, s4, s5⟩ := hs
      go_simp
    simp only [Act.put, List.setIfInBounds_toArray, List.set_cons_zero, List.set_cons_succ]
    refine goes_take' (i := 14) (d := some 37) (v := .int .i64 (i : Int)) (l' := #[true, true, true, true, true, true, true, true, true, false, true, true, true, true, true, false, false, false, false, false]) rfl (by kernel_rfl) (by kernel_rfl) (by kernel_rfl) (by kernel_rfl) rfl rfl (.inl ⟨rfl, fun w' hs => ?_⟩) hS ?_
    · obtain ⟨s0, s1, s2, s3, s4, s5⟩ := hs
      go_simp
    simp only [Act.put, List.setIfInBounds_toArray, List.set_cons_zero, List.set_cons_succ]
    refine goes_take' (i := 15) (d := some 38) (v := .pointer (some ⟨w.heap.size, i, none⟩)) (l' := #[true, true, true, true, true, true, true, true, true, false, true, true, true, true, true, true, false, false, false, false]) rfl (by kernel_rfl) (by kernel_rfl) (by kernel_rfl) (by kernel_rfl) rfl rfl (.inl ⟨rfl, fun w' hs => ?_⟩) hS ?_
    · obtain ⟨s0, s1, s2, s3, s4, s5⟩ := hs
      go_simp
    simp only [Act.put, List.setIfInBounds_toArray, List.set_cons_zero, List.set_cons_succ]
    refine goes_take' (i := 16) (d := some 39) (v := vi) (l' := #[true, true, true, true, true, true, true, true, true, false, true, true, true, true, true, true, true, false, false, false]) rfl (by kernel_rfl) (by kernel_rfl) (by kernel_rfl) (by kernel_rfl) rfl rfl (.inl ⟨rfl, fun w' hs => ?_⟩) hS ?_
    · obtain ⟨s0, s1, s2, s3, s4, s5⟩ := hs
      go_simp
    simp only [Act.put, List.setIfInBounds_toArray, List.set_cons_zero, List.set_cons_succ]
    obtain ⟨v', w', hrun, hrow', hgr⟩ := app_row (W := W.drew) x.1.num (ty := 22) hrow hbel.size hgl (by have := sets_row_le m _ hys; simp at this; omega)
    have hs9 : (W.alloc (.cells #[.int .i64 x.1.num] 3)).drew.cell? ⟨w.heap.size + 1, 0, none⟩ = some (.slice (some ⟨w.heap.size, 0, none⟩) m m) ∧ (W.alloc (.cells #[.int .i64 x.1.num] 3)).drew.cell? ⟨x.1.blk, 1, none⟩ = some (.int .i64 (i : Int)) ∧ (W.alloc (.cells #[.int .i64 x.1.num] 3)).drew.cell? ⟨x.1.blk, 2, none⟩ = some (.int .i64 x.1.num) ∧
      (W.alloc (.cells #[.int .i64 x.1.num] 3)).drew.cell? ⟨w.heap.size, i, none⟩ = some vi ∧ x.1.blk < (W.alloc (.cells #[.int .i64 x.1.num] 3)).drew.heap.size ∧ w.heap.size + 1 < (W.alloc (.cells #[.int .i64 x.1.num] 3)).drew.heap.size := by
      have e : ∀ a : Addr, a.block < W.heap.size → (W.alloc (.cells #[.int .i64 x.1.num] 3)).drew.cell? a = W.cell? a := fun a ha => World.cell?_alloc_lt W _ a ha
      exact ⟨(e _ hbl).trans hbc, (e _ a7).trans a1, (e _ a7).trans a2, (e _ hgl).trans hgi, by simp; omega, by simp; omega⟩
    refine goes_one' (i := 9) (l' := #[true, true, true, true, true, true, true, true, true, true, true, true, true, true, true, true, true, false, false, false]) (by kernel_rfl) (step_value (d := some 32) (v := .slice (some ⟨W.heap.size, 0, none⟩) 1 1) (w' := (W.alloc (.cells #[.int .i64 x.1.num] 3)).drew) rfl rfl rfl (by go_simp)) rfl (.inr hs9) ?_
    simp only [Act.put, List.setIfInBounds_toArray, List.set_cons_zero, List.set_cons_succ]
    have hrun' : (Builtin.append_ #[22, 22] 22 #[.slice (some ⟨W.heap.size, 0, none⟩) 1 1, vi]).run Try.prog (W.alloc (.cells #[.int .i64 x.1.num] 3)).drew = .ok v' w' := hrun
    have hold : ∀ b, b < W.heap.size → w'.heap[b]? = W.heap[b]? := fun b hb' =>
      (hgr.block b (by show b < (W.alloc _).heap.size; simp; omega) (by intro e; injection e with e; have : b = W.heap.size := e; omega)).trans (Below.heap_alloc W _ b hb')
    have hsz : W.heap.size + 1 ≤ w'.heap.size := by have := hgr.size; simpa using this
    have ec : ∀ a : Addr, a.block < W.heap.size → w'.cell? a = W.cell? a := fun a ha => World.cell?_of_block (w := W) (hold a.block ha)
    have hs17 : w'.cell? ⟨w.heap.size + 1, 0, none⟩ = some (.slice (some ⟨w.heap.size, 0, none⟩) m m) ∧ w'.cell? ⟨x.1.blk, 1, none⟩ = some (.int .i64 (i : Int)) ∧ w'.cell? ⟨x.1.blk, 2, none⟩ = some (.int .i64 x.1.num) ∧
      w'.cell? ⟨w.heap.size, i, none⟩ = some vi ∧ x.1.blk < w'.heap.size ∧ w.heap.size + 1 < w'.heap.size :=
      ⟨(ec _ hbl).trans hbc, (ec _ a7).trans a1, (ec _ a7).trans a2, (ec _ hgl).trans hgi, by omega, by omega⟩
    obtain ⟨g2, cap2, hv', hg2, hx2⟩ : ∃ g2 cap2, v' = .slice (some ⟨g2, 0, none⟩) (ys.length + 1) cap2 ∧ (w.heap.size ≤ g2 ∧ g2 ≠ w.heap.size) ∧ ∀ j u, (x.1.num :: ys)[j]? = some u → w'.cell? ⟨g2, j, none⟩ = some (.int .i64 u) := by
      rcases hrow' with ⟨_, h0⟩ | ⟨g2, cap2, h1, _, h3, h4⟩
      · cases h0
      · exact ⟨g2, cap2, h1, h3, h4⟩
    subst hv'
    have HR := Lib.hid hrun
    clear hrun
    have hrunN : (do pure (Next.value (← Builtin.append_ #[22, 22] 22 #[.slice (some ⟨W.heap.size, 0, none⟩) 1 1, vi])) : Sem Next).run Try.prog (W.alloc (.cells #[.int .i64 x.1.num] 3)).drew = .ok (.value (.slice (some ⟨g2, 0, none⟩) (ys.length + 1) cap2)) w' := by
      simp only [Sem.run_bind, hrun', Result.andThen, Sem.run_pure]
    refine goes_one' (i := 17) (l' := #[true, true, true, true, true, true, true, true, true, true, true, true, true, true, true, true, true, true, false, false]) (by kernel_rfl) (step_value (d := some 40) (v := .slice (some ⟨g2, 0, none⟩) (ys.length + 1) cap2) (w' := w') rfl rfl rfl (by simp only [List.getElem_toArray, List.getElem_cons_succ, List.getElem_cons_zero, BigFrame.execOp_builtin, BigFrame.builtin_append, List.map_toArray, List.map_cons, List.map_nil]; exact hrunN)) rfl (.inr hs17) ?_
    simp only [Act.put, List.setIfInBounds_toArray, List.set_cons_zero, List.set_cons_succ]
    refine goes_take' (i := 18) (d := some 41) (v := .pointer (some ⟨w.heap.size, i, none⟩)) (l' := #[true, true, true, true, true, true, true, true, true, true, true, true, true, true, true, true, true, true, true, false]) rfl (by kernel_rfl) (by kernel_rfl) (by kernel_rfl) (by kernel_rfl) rfl rfl (.inl ⟨rfl, fun w' hs => ?_⟩) hs17 ?_
    · obtain ⟨s0, s1, s2, s3, s4, s5⟩ := hs
      go_simp
    simp only [Act.put, List.setIfInBounds_toArray, List.set_cons_zero, List.set_cons_succ]
    have hCw : w'.heap[w.heap.size]? = some (.cells C 22) := (hold _ hgl).trans hC
    have hfr : w'.frozen? ⟨w.heap.size, i, none⟩ = false := blk_free hCw i
    have hcl := hs17.2.2.2.1
    have hgl' : w.heap.size < w'.heap.size := by omega
    refine goes_one' (i := 19) (l' := #[true, true, true, true, true, true, true, true, true, true, true, true, true, true, true, true, true, true, true, true]) (by kernel_rfl) (step_skip (d := none) (w' := w'.setCell ⟨w.heap.size, i, none⟩ (.slice (some ⟨g2, 0, none⟩) (ys.length + 1) cap2)) rfl rfl rfl (by go_simp)) rfl (.inl rfl) ?_
    refine goes_done (by kernel_rfl) ?_
    have hk1 : KeepsOthers W w' := ((KeepsOthers.drew W).trans (KeepsOthers.alloc _ _)).trans (KeepsOthers.of_grownBy hgr fun j o e ho => by
      injection e with e
      subst e
      rw [blk_new] at ho
      cases ho; rfl)
    have hh1 : Held (fun i => i < w.heap.size ∨ i = w.heap.size + 1 + 1 ∨ i = w.heap.size + 1 + 1 + 1) W (w'.setCell ⟨w.heap.size, i, none⟩ (.slice (some ⟨g2, 0, none⟩) (ys.length + 1) cap2)) :=
      ⟨by rw [set_size]; omega, fun b hb' hl' => (Below.heap_setCell _ _ _ b (by show b ≠ w.heap.size; omega)).trans (hold b hl')⟩
    have hb1 : Boxed (w'.setCell ⟨w.heap.size, i, none⟩ (.slice (some ⟨g2, 0, none⟩) (ys.length + 1) cap2)) (w.heap.size + 1) 26 (.slice (some ⟨w.heap.size, 0, none⟩) m m) :=
      blk_far ((hold _ hbl).trans hb) (by omega) _ _
    have hbel1 : Below w.heap.size w (w'.setCell ⟨w.heap.size, i, none⟩ (.slice (some ⟨g2, 0, none⟩) (ys.length + 1) cap2)) :=
      hbel.trans ⟨hgr.os, hgr.tape, hgr.output, by rw [set_size]; omega, fun b hb' => (Below.heap_setCell _ _ _ b (by show b ≠ w.heap.size; omega)).trans (hold b (by have := hbel.size; omega))⟩
    refine ⟨hk1.trans (KeepsOthers.setCell _ _ _), hh1, ⟨hb1, ?_⟩, hbel1⟩
    have hset := blk_set hCw i (.slice (some ⟨g2, 0, none⟩) (ys.length + 1) cap2)
    refine ⟨_, hset, by rw [Array.size_setIfInBounds, setsS_length]; exact hCs, fun j zs hz => ?_⟩
    have hcells : ∀ (b j : Nat) (u : Value), b ≠ w.heap.size → w'.cell? ⟨b, j, none⟩ = some u → (w'.setCell ⟨w.heap.size, i, none⟩ (.slice (some ⟨g2, 0, none⟩) (ys.length + 1) cap2)).cell? ⟨b, j, none⟩ = some u := fun b j u hne hu =>
      (World.cell?_of_block (w := w') (a := ⟨b, j, none⟩) (Below.heap_setCell _ _ _ b hne)).trans hu
    rw [List.map_append, List.map_singleton, setsS_snoc, putS, HI.out, Int.toNat_natCast, List.getElem?_modify] at hz
    obtain ⟨z, hz1, hz2⟩ := Option.map_eq_some_iff.1 hz
    by_cases hij : i = j
    · subst hij
      rw [hys] at hz1
      injection hz1 with hz1
      subst hz1
      rw [if_pos rfl] at hz2
      subst hz2
      exact ⟨.slice (some ⟨g2, 0, none⟩) (ys.length + 1) cap2, by simp [hCs, him], .inr ⟨g2, cap2, rfl, by simp, hg2, fun q u hu => hcells _ _ _ hg2.2 (hx2 q u hu)⟩⟩
    · rw [if_neg hij] at hz2
      subst hz2
      obtain ⟨v0, hv0, hr0⟩ := hall j z hz1
      refine ⟨v0, by rw [Array.getElem?_setIfInBounds_ne hij]; exact hv0, hr0.kept fun b q u _ hne hu _ => ?_⟩
      exact hcells b q u hne ((ec ⟨b, q, none⟩ (World.block_lt_of_cell? W _ hu)).trans hu)
  case done =>
    rintro D ys W hD rfl ⟨⟨hb, hr⟩, hbel⟩ hK
    have hbc := hb.cell
    gi_wp2
    refine ⟨by simp, .inl ⟨_, _, rfl, run_takeDeferred hK, ?_⟩⟩
    refine ⟨.slice (some ⟨w.heap.size, 0, none⟩) m m, results_tmp (t := 4) rfl _ _ _, _, rfl, ?_, ?_⟩
    · obtain ⟨C, hC, hCs, hall⟩ := hr
      rw [List.attach_map_subtype_val] at hCs hall
      have hl : (setsS m xs).length = m := setsS_length _ _
      have hDC : D ≠ w.heap.size := by rintro rfl; rw [hC] at hK; cases hK
      have ec : ∀ (b j : Nat) (u : Value), W.cell? ⟨b, j, none⟩ = some u → (W.putObj D (.deferred none)).cell? ⟨b, j, none⟩ = some u := fun b j u hu => by
        by_cases hb : b = D
        · subst hb
          unfold World.cell? at hu
          simp [hK] at hu
        · exact (World.cell?_of_block (w := W) (a := ⟨b, j, none⟩) (World.putObj_heap_other hb)).trans hu
      have hgl : w.heap.size < (W.putObj D (.deferred none)).heap.size := by have := blk_lt hC; simpa using this
      refine ⟨some ⟨w.heap.size, 0, none⟩, m, by rw [hl], fun i ys hy => ?_⟩
      obtain ⟨v, hv, hrow⟩ := hall i ys hy
      refine ⟨w.heap.size, 0, v, rfl, Nat.le_refl _, hgl, ?_, ?_⟩
      · rw [Nat.zero_add]
        exact ec _ _ _ ((blk_cell hC i).trans hv)
      · rcases hrow with ⟨rfl, rfl⟩ | ⟨g, cap, rfl, _, hg, hx⟩
        · exact ⟨none, 0, rfl, fun j x hj => by simp at hj⟩
        · refine ⟨some ⟨g, 0, none⟩, cap, rfl, fun j x hj => ⟨g, 0, rfl, hg.1, ?_, ?_⟩⟩
          · exact World.block_lt_of_cell? _ _ (ec _ _ _ (hx j x hj))
          · rw [Nat.zero_add]
            exact ec _ _ _ (hx j x hj)
    · exact hbel.trans (belowK_b (w := w) (Nat.le_refl _) W D _ _ (by omega) hK rfl rfl)
  case stop =>
    rintro D c pre W _ _ h _
    exact h.elim

end Go.Proofs.Ythflfafenehofaa
