/-
  The walk of Back, and of the law's own 'back'.
-/
import Derived.Test.YthflfafenehofaaRange
import Derived.Test.YthflfafenehofaaW7
import Derived.Shelf.RegionOpen
namespace Go.Proofs.Ythflfafenehofaa
open Go.RowKit Go.Shelf

attribute [local go_sem] Oper.semAt_some

set_option maxHeartbeats 1000000 in
theorem Back_in (n : Nat) (v : Option Addr) (k : Int) (w : World) :
    CallsIn Fence.wide n Try.prog 26 #[.pointer v, .int .i64 k] w fun e w' => e = .returned (.func (.func 34) #[] #[.pointer (some ⟨w.heap.size, 0, none⟩), .pointer (some ⟨w.heap.size + 1, 0, none⟩)]) ∧ (w.alloc (.cells #[.pointer v] 24)).alloc (.cells #[.int .i64 k] 3) = w' := by
  refine callsIn_of_wp Try.func26 rfl trivial ?_ rfl
  simp only [Try.ntmps26, List.size_toArray, List.length_cons, List.length_nil, Nat.reduceAdd, Nat.reduceSub, Array.replicate_succ, Array.replicate_zero, List.push_toArray, List.append_toArray, List.nil_append, List.cons_append]
  gi_wp2
  go_ret
  exact ⟨rfl, rfl⟩

theorem own_drewN {α : Type} {B : Nat} {J : α → World → Prop} (hJ : OwnFrom B J) {s : α} {A : World} (m : Nat) (h : J s A) : J s (A.drewN m) := hJ s A _ none h ⟨rfl, rfl, rfl, Nat.le_refl _, fun _ _ _ => rfl⟩ (fun r e => by cases e)

theorem roundIn_any (l2 m' : Nat) {m : Nat} {P : Program} {l : Nat} {f : FuncId} {tmps : Array Value} {assign body : Code} {w : World} {R : Ending → World → Prop} (h : RoundIn Fence.wide m P l f tmps assign body w R) :
    RoundIn (Fence.wide.inRound l2) m' P l f tmps assign body w R := ⟨h.1, fun c cs _ => h.2 c cs (room_wide _)⟩

/-- What a refs' iterator tells of a node. -/
def refOf (x : CN) : Int × Int := (x.slot, x.gen)

set_option maxHeartbeats 2000000 in
set_option maxRecDepth 100000 in
theorem back34_n (n : Nat) (hn : 6 ≤ n) (Bc Bk : Nat) (pc : Option Addr) (k : Int) (xs : List CN) (w : World) (hBc : Boxed w Bc 24 (.pointer pc)) (hBk : Boxed w Bk 3 (.int .i64 k))
    (h33 : ∀ (W : World) (Bc' Bk' : Nat), Below w.heap.size w W → Boxed W Bc' 24 (.pointer pc) → Boxed W Bk' 3 (.int .i64 k) → SeqStopsK Fence.wide (n - 1) Try.prog 33 #[.pointer (some ⟨Bc', 0, none⟩), .pointer (some ⟨Bk', 0, none⟩)]
      (fun x : {x : CN // x ∈ xs} => #[.pointer (some ⟨x.1.blk, 0, none⟩)]) Calm (fun ys => ys = xs.attach) (fun pre => pre <+: xs.attach) xs.length W)
    (hnode : ∀ x ∈ xs, w.heap[x.blk]? = some (.cells (cval x) 62)) :
    SeqN Fence.wide n Try.prog 34 #[.pointer (some ⟨Bc, 0, none⟩), .pointer (some ⟨Bk, 0, none⟩)] (fun r : Int × Int => #[.agg #[.int .i64 r.1, .int .i64 r.2]]) Calm (fun rs => rs = xs.map refOf) xs.length w := by
  intro l J W hW hJ hY h0
  have hc1 : Boxed W Bc 24 (.pointer pc) := (hW.block Bc hBc.lt).trans hBc
  have hk1 : Boxed W Bk 3 (.int .i64 k) := (hW.block Bk hBk.lt).trans hBk
  have hc2 := (hc1.alloc (.cells #[.func (.yield l) #[] #[]] 72)).cell
  have hk2 := (hk1.alloc (.cells #[.func (.yield l) #[] #[]] 72)).cell
  have h34 := wide_fn 34
  have h33f := wide_fn 33
  have h25f := wide_fn 25
  have h1 : 1 ≤ n := by omega
  have h2 : 1 ≤ n - 1 - 1 := by omega
  refine callsIn_of_wp_marks Try.func34 rfl h34 ?_ rfl
  simp only [Try.ntmps34, List.size_toArray, List.length_cons, List.length_nil, Nat.reduceAdd, Nat.reduceSub, Array.replicate_succ, Array.replicate_zero, List.push_toArray, List.append_toArray, List.nil_append, List.cons_append]
  have HX := Lib.hid (And.intro h33 hnode)
  clear h33 hnode
  gi_wp2_with (gi_at_call 25; refine (back_in _ pc k _).mono ?_; rintro e w1 ⟨rfl, rfl⟩)
  have bY := ((Boxed.new W 72 (.func (.yield l) #[] #[])).alloc (.cells #[.pointer pc] 24)).alloc (.cells #[.int .i64 k] 3)
  have bC := (Boxed.new (W.alloc (.cells #[.func (.yield l) #[] #[]] 72)) 24 (.pointer pc)).alloc (.cells #[.int .i64 k] 3)
  have bK := Boxed.new ((W.alloc (.cells #[.func (.yield l) #[] #[]] 72)).alloc (.cells #[.pointer pc] 24)) 3 (.int .i64 k)
  simp only [World.size_alloc] at bC bK
  have hB0 : Below w.heap.size w (((W.alloc (.cells #[.func (.yield l) #[] #[]] 72)).alloc (.cells #[.pointer pc] 24)).alloc (.cells #[.int .i64 k] 3)) := ((hW.alloc hW.size _).alloc (by have := hW.size; simp; omega) _).alloc (by have := hW.size; simp; omega) _
  have hj0 : J [] (((W.alloc (.cells #[.func (.yield l) #[] #[]] 72)).alloc (.cells #[.pointer pc] 24)).alloc (.cells #[.int .i64 k] 3)) := hJ.alloc _ (hJ.alloc _ (hJ.alloc _ h0))
  have hsz : (((W.alloc (.cells #[.func (.yield l) #[] #[]] 72)).alloc (.cells #[.pointer pc] 24)).alloc (.cells #[.int .i64 k] 3)).heap.size = W.heap.size + 3 := by simp
  obtain ⟨W0, hW0⟩ : ∃ W0, ((W.alloc (.cells #[.func (.yield l) #[] #[]] 72)).alloc (.cells #[.pointer pc] 24)).alloc (.cells #[.int .i64 k] 3) = W0 := ⟨_, rfl⟩
  rw [hW0] at bY bC bK hB0 hj0 hsz ⊢
  clear hW0 hc1 hk1 hc2 hk2
  have hWs := hW.size
  have hJ0 : OwnFrom W0.heap.size J := fun s A B row hs hg hr => hJ s A B row hs hg (fun r e => ⟨by have := (hr r e).1; omega, (hr r e).2⟩)
  refine wpIn_rangeFunc_ownG rfl h1 (gf := 33) (lb := #[.pointer (some ⟨W.heap.size + 1, 0, none⟩), .pointer (some ⟨W.heap.size + 1 + 1, 0, none⟩)]) rfl h33f (enters_of Try.func33 (by kernel_rfl) rfl)
    (HX.out.1 W0 _ _ hB0 bC bK) (fun h k => h.trans k) (fun W l o o' _ hl hc hw => Calm.turn o' hl hc hw) (Below.refl _ _) (fun _ => rfl)
    (fun pre W' => (J (pre.map fun x => refOf x.1) W' ∧ Boxed W' W.heap.size 72 (.func (.yield l) #[] #[])) ∧ ∀ x ∈ xs, W'.heap[x.blk]? = some (.cells (cval x) 62))
    (fun _ _ _ => False)
    (OwnFrom.and (OwnFrom.and (show OwnFrom W0.heap.size (fun (pre : List {x : CN // x ∈ xs}) W' => J (pre.map fun x => refOf x.1) W') from fun s A B row hs hg hr => hJ0 _ A B row hs hg hr) (Own.from (boxed_own _ _ _) _)) (fun s A B row hs hg hr => fun x hx => (hg.block _ (blk_lt (hs x hx)) (fun e => by
      obtain ⟨_, o, ho, hc⟩ := hr _ e.symm
      rw [hs x hx] at ho; cases ho; cases hc)).trans (hs x hx)))
    (fun _ _ _ _ _ hs _ _ => hs)
    ⟨⟨hj0, bY⟩, fun x hx => (hB0.block _ (blk_lt (HX.out.2 x hx))).trans (HX.out.2 x hx)⟩
    (fun x => { tmps := #[.func (.yield l) #[] #[], .pointer (some ⟨Bc, 0, none⟩), .pointer (some ⟨Bk, 0, none⟩), .pointer (some ⟨W.heap.size, 0, none⟩), .pointer (some ⟨x.1.blk, 0, none⟩), .pointer pc, .int .i64 k,
      .func (.func 33) #[] #[.pointer (some ⟨W.heap.size + 1, 0, none⟩), .pointer (some ⟨W.heap.size + 1 + 1, 0, none⟩)], .pointer (some ⟨x.1.blk, 0, none⟩), undef, undef, undef, undef, undef, undef, undef], defers := [] })
    ?assign ?body ?done ?stop
  case assign =>
    intro l x W K hK
    gi_wp2
    exact hK
  case body =>
    rintro l2 pre x W2 ⟨⟨hj, hby⟩, hnd⟩ hlt
    have hx := hnd x.1 x.2
    have hlx := blk_lt hx
    have c3 : W2.cell? ⟨x.1.blk, 3, none⟩ = some (.int .i64 x.1.slot) := blk_cell hx 3
    have c4 : W2.cell? ⟨x.1.blk, 4, none⟩ = some (.int .i64 x.1.gen) := blk_cell hx 4
    have cy := hby.cell
    have hjd : J (pre.map fun x => refOf x.1) W2.drew := hJ0 _ W2 _ none hj ⟨rfl, rfl, rfl, Nat.le_refl _, fun _ _ _ => rfl⟩ (fun r e => by cases e)
    obtain ⟨fn, tmps, assign, body, hy, hR⟩ := hY _ (refOf x.1) W2.drew hjd (by simpa using hlt)
    simp only [refOf] at hy
    have hmx : Try.prog.follows .mixedOrders = true := by kernel_rfl
    gi_wp2
    gi_region_with_o (refine (roundIn_any _ _ hR).mono ?_; rintro e W3 ⟨rfl, hj3, hc3, hk3⟩)
    all_goals gi_wp2
    all_goals exact ⟨keepsFrom_wider ⟨hk3.size, fun k o hk h0 ho => hk3.same k o hk h0 ho⟩ (by omega), ⟨hc3.size, fun k o hk ho => hc3.same k o hk ho⟩, ⟨by simpa using hj3, hc3.same _ _ hby rfl⟩, fun y hy => hc3.same _ _ (hnd y hy) rfl⟩
  case done =>
    rintro D ys W2 hD rfl ⟨⟨hj, hby⟩, hnd⟩ hK
    gi_wp2
    refine ⟨by simp, .inl ⟨_, _, rfl, run_takeDeferred hK, ?_⟩⟩
    refine ⟨_, results_none rfl _ _ _, ⟨_, rfl⟩, xs.map refOf, rfl, ?_⟩
    have e : xs.attach.map (fun x => refOf x.1) = xs.map refOf := by rw [show (fun x : {x : CN // x ∈ xs} => refOf x.1) = refOf ∘ Subtype.val from rfl, ← List.map_map, List.attach_map_subtype_val]
    rw [e] at hj
    exact hJ0.putObj _ hj hD hK rfl
  case stop =>
    rintro D c pre W _ _ h _
    exact h.elim

theorem back1_calm (n : Nat) (hn : 2 ≤ n) (Bc Bk : Nat) {X : Nat → Prop} {c mb : Nat} {M : CS} (k : Int) (xs : List CN) (hP : Path M k xs) (w : World)
    (hc : Boxed w Bc 24 (.pointer (some ⟨c, 0, none⟩))) (hk : Boxed w Bk 3 (.int .i64 k)) (h : IsChain X w c mb M) (hX : ∀ i, X i → ∃ o, w.heap[i]? = some o ∧ calmO o = true) :
    SeqStopsK Fence.wide n Try.prog 33 #[.pointer (some ⟨Bc, 0, none⟩), .pointer (some ⟨Bk, 0, none⟩)] (fun x : {x : CN // x ∈ xs} => #[.pointer (some ⟨x.1.blk, 0, none⟩)]) Calm (fun ys => ys = xs.attach) (fun pre => pre <+: xs.attach) xs.length w := by
  intro l J Jx W hW hJ hJx hY h0
  let K : Nat → Prop := fun i => X i ∨ i = Bc
  have hKc : ∀ i, K i → ∃ o, w.heap[i]? = some o ∧ calmO o = true := fun i hi => by
    rcases hi with hi | hi
    · exact hX i hi
    · subst hi; exact ⟨_, hc, rfl⟩
  have hKl : ∀ i, K i → i < w.heap.size := fun i hi => by obtain ⟨o, ho, _⟩ := hKc i hi; exact blk_lt ho
  refine (back1_stops n hn Bc Bk (K := K) k xs (fun i hi => .inl hi) hP w (.inr rfl) hc.cell hk.cell h l (fun pre W' => J pre W' ∧ ∀ i, K i → W'.heap[i]? = w.heap[i]?) Jx W hW
    (fun s A B row hs hg hr => ⟨hJ s A B row hs.1 hg hr, fun i hi => (hg.block i (by
        have h1 := hs.2 i hi
        obtain ⟨o, ho, _⟩ := hKc i hi
        exact blk_lt (h1.trans ho)) (fun e => by have := (hr i e.symm).1; have := hKl i hi; have := hW.size; omega)).trans (hs.2 i hi)⟩)
    hJx (fun pre x W1 hJ1 hlen => (hY pre x W1 hJ1.1 hlen).mono fun e W' hh => ?_) ⟨h0, fun i hi => hW.block i (hKl i hi)⟩).mono ?_
  · rcases hh with ⟨h1, h2, h3⟩ | hh
    · have hk3 : ∀ i, K i → W'.heap[i]? = w.heap[i]? := fun i hi => by
        obtain ⟨o, ho, hcal⟩ := hKc i hi
        rw [h3.same i o ((hJ1.2 i hi).trans ho) hcal, ho]
      exact .inl ⟨h1, ⟨h2, hk3⟩, ⟨h3.size, fun i hi _ => (hk3 i hi).trans (hJ1.2 i hi).symm⟩⟩
    · exact .inr hh
  · rintro e W' ⟨hv, ⟨ys, hy, hj⟩ | hp⟩
    · exact ⟨hv, .inl ⟨ys, hy, hj.1⟩⟩
    · exact ⟨hv, .inr hp⟩

set_option maxHeartbeats 1000000 in
theorem back1_none (n : Nat) (hn : 2 ≤ n) (Bc Bk : Nat) (k : Int) (w : World) (hc : Boxed w Bc 24 (.pointer none)) (hk : Boxed w Bk 3 (.int .i64 k)) :
    SeqStopsK Fence.wide n Try.prog 33 #[.pointer (some ⟨Bc, 0, none⟩), .pointer (some ⟨Bk, 0, none⟩)] (fun x : {x : CN // x ∈ ([] : List CN)} => #[.pointer (some ⟨x.1.blk, 0, none⟩)]) Calm (fun ys => ys = ([] : List CN).attach) (fun pre => pre <+: ([] : List CN).attach) ([] : List CN).length w := by
  intro l J Jx W hW hJ hJx hY h0
  have d1 : Boxed W Bc 24 (.pointer none) := (hW.block Bc hc.lt).trans hc
  have d2 : Boxed W Bk 3 (.int .i64 k) := (hW.block Bk hk.lt).trans hk
  have c1 := d1.cell
  have c2 := d2.cell
  have h23 := wide_fn 23
  have h33 := wide_fn 33
  have h1 : 1 ≤ n := by omega
  refine callsIn_of_wp Try.func33 rfl h33 ?_ rfl
  simp only [Try.ntmps33, List.size_toArray, List.length_cons, List.length_nil, Nat.reduceAdd, Nat.reduceSub, Array.replicate_succ, Array.replicate_zero, List.push_toArray, List.append_toArray, List.nil_append, List.cons_append]
  gi_wp2_with (gi_at_call 23; refine (callsIn_wide.2 (at_nil k W)).mono ?_; rintro e w1 ⟨rfl, rfl⟩)
  gi_loopw [4] (fun p wr => p = .pointer none ∧ wr = W) (fun _ _ => 0)
  case atStart => exact ⟨rfl, rfl⟩
  case round =>
    obtain ⟨rfl, rfl⟩ := hrel
    gi_wp2
    refine ⟨fun _ h => (by cases h), ?_⟩
    gi_wp2
    go_end0
    exact ⟨⟨_, rfl⟩, .inl ⟨[], rfl, h0⟩⟩

theorem under68 : Try.prog.underlying 68 = some (.func #[72] #[] false) := by kernel_rfl
theorem run_eq_nilfunc (f : Fn) (xs ys : Array Value) (W : World) : (binOp .eql 68 (.func f xs ys) .nilFunc).run Try.prog W = .ok (.bool false) W := by
  have e : (Op.equal 68 (.func f xs ys) .nilFunc).run Try.prog W = .ok false W := by
    unfold Op.equal Op.maxDepth
    unfold Op.equalIn
    simp only [Sem.run_bind, run_underlying under68, Result.andThen, Sem.run_pure]
  unfold binOp
  simp only [Sem.run_bind, e, Result.andThen, Sem.run_pure]

set_option maxHeartbeats 2000000 in
set_option maxRecDepth 100000 in
/-- The law's own 'back': the refs, as a row of one's own. -/
theorem back_n (pc : Option Addr) (k : Int) (xs : List CN) (w : World) (hlen : xs.length ≤ 1000000)
    (h33 : ∀ (W : World) (Bc' Bk' : Nat), Below w.heap.size w W → Boxed W Bc' 24 (.pointer pc) → Boxed W Bk' 3 (.int .i64 k) → SeqStopsK Fence.wide 18 Try.prog 33 #[.pointer (some ⟨Bc', 0, none⟩), .pointer (some ⟨Bk', 0, none⟩)]
      (fun x : {x : CN // x ∈ xs} => #[.pointer (some ⟨x.1.blk, 0, none⟩)]) Calm (fun ys => ys = xs.attach) (fun pre => pre <+: xs.attach) xs.length W)
    (hnode : ∀ x ∈ xs, w.heap[x.blk]? = some (.cells (cval x) 62)) :
    CallsIn Fence.wide 20 Try.prog 15 #[.pointer pc, .int .i64 k] w fun e w' => ∃ vo, e = .returned vo ∧ w'.ownsRow w.heap.size 31 2 vo xs.length (refv (xs.map refOf)) ∧ Below w.heap.size w w' := by
  have h15 := wide_fn 15
  have h26 := wide_fn 26
  have h34 := wide_fn 34
  have h1 : 1 ≤ 20 := by omega
  obtain ⟨i0, hi, hz0, hz1, hz2⟩ := info_parts info31
  refine callsIn_of_wp_marks Try.func15 rfl h15 ?_ rfl
  simp only [Try.ntmps15, List.size_toArray, List.length_cons, List.length_nil, Nat.reduceAdd, Nat.reduceSub, Array.replicate_succ, Array.replicate_zero, List.push_toArray, List.append_toArray, List.nil_append, List.cons_append]
  have HX := Lib.hid (And.intro h33 hnode)
  clear h33 hnode
  have hEq := fun (fs : Array Value) (W : World) => run_eq_nilfunc (.func 34) #[] fs W
  gi_wp2_with (gi_at_call 26; refine (Back_in _ pc k _).mono ?_; rintro e w1 ⟨rfl, rfl⟩)
  have bL := ((Boxed.new w 32 (.slice none 0 0)).alloc (.cells #[.pointer pc] 24)).alloc (.cells #[.int .i64 k] 3)
  have bC := (Boxed.new (w.alloc (.cells #[.slice none 0 0] 32)) 24 (.pointer pc)).alloc (.cells #[.int .i64 k] 3)
  have bK := Boxed.new ((w.alloc (.cells #[.slice none 0 0] 32)).alloc (.cells #[.pointer pc] 24)) 3 (.int .i64 k)
  simp only [World.size_alloc] at bC bK
  have hB0 : Below w.heap.size w (((w.alloc (.cells #[.slice none 0 0] 32)).alloc (.cells #[.pointer pc] 24)).alloc (.cells #[.int .i64 k] 3)) := (((Below.refl _ w).alloc (Nat.le_refl _) _).alloc (by simp) _).alloc (by simp; omega) _
  have hsz : (((w.alloc (.cells #[.slice none 0 0] 32)).alloc (.cells #[.pointer pc] 24)).alloc (.cells #[.int .i64 k] 3)).heap.size = w.heap.size + 3 := by simp
  obtain ⟨W0, hW0⟩ : ∃ W0, ((w.alloc (.cells #[.slice none 0 0] 32)).alloc (.cells #[.pointer pc] 24)).alloc (.cells #[.int .i64 k] 3) = W0 := ⟨_, rfl⟩
  rw [hW0] at bL bC bK hB0 hsz ⊢
  clear hW0
  clear hEq
  refine wpIn_range_N rfl h1 (gf := 34) (lb := #[.pointer (some ⟨w.heap.size + 1, 0, none⟩), .pointer (some ⟨w.heap.size + 1 + 1, 0, none⟩)]) rfl h34 (enters_of Try.func34 (by kernel_rfl) rfl)
    (back34_n 19 (by omega) _ _ pc k xs W0 bC bK (fun W Bc' Bk' hb => HX.out.1 W Bc' Bk' (hB0.trans (hb.mono hB0.size))) (fun x hx => (hB0.block _ (blk_lt (HX.out.2 x hx))).trans (HX.out.2 x hx)))
    (fun h k => h.trans k) (fun W l o o' hl hc hw => Calm.turn o' hl hc hw) (Below.refl _ _) (fun _ => rfl)
    (fun pre W => (∃ v, Boxed W w.heap.size 32 v ∧ W.ownsRow w.heap.size 31 2 v pre.length (refv pre) ∧ True) ∧ Below w.heap.size w W)
    (OwnFrom.and (Own.from (holdsRow_own w.heap.size w.heap.size 32 31 2 (fun pre : List (Int × Int) => pre.length) (fun pre => refv pre) (fun _ _ => True)) _) (ownFrom_below (Nat.le_refl _) (by omega)))
    ⟨⟨_, bL, World.ownsRow_nil _ _ _ _, trivial⟩, hB0⟩
    (fun x a' W => ∃ Bx, Bx < W.heap.size ∧ W.heap[Bx]? = some (.cells #[.int .i64 x.1, .int .i64 x.2] 31) ∧ a' = { tmps := #[.pointer pc, .int .i64 k, undef, undef, .slice none 0 0, .pointer (some ⟨w.heap.size, 0, none⟩),
      .func (.func 34) #[] #[.pointer (some ⟨w.heap.size + 1, 0, none⟩), .pointer (some ⟨w.heap.size + 1 + 1, 0, none⟩)], .pointer (some ⟨Bx, 0, none⟩), .pointer pc, .int .i64 k,
      .func (.func 34) #[] #[.pointer (some ⟨w.heap.size + 1, 0, none⟩), .pointer (some ⟨w.heap.size + 1 + 1, 0, none⟩)], .func (.func 34) #[] #[.pointer (some ⟨w.heap.size + 1, 0, none⟩), .pointer (some ⟨w.heap.size + 1 + 1, 0, none⟩)], .bool false,
      .func (.func 34) #[] #[.pointer (some ⟨w.heap.size + 1, 0, none⟩), .pointer (some ⟨w.heap.size + 1 + 1, 0, none⟩)], .agg #[.int .i64 x.1, .int .i64 x.2], undef, undef, undef, undef, undef], defers := [] })
    (fun x a' => fun s A B row hs hg hr => by
      obtain ⟨Bx, h1, h2, h3⟩ := hs
      exact ⟨Bx, Nat.lt_of_lt_of_le h1 hg.size, (hg.block Bx h1 (fun e => by obtain ⟨_, o, ho, hc⟩ := hr _ e.symm; rw [h2] at ho; cases ho; cases hc)).trans h2, h3⟩)
    ?assign ?body ?done
  case assign =>
    rintro l pre x W K ⟨⟨v, hv, hr, _⟩, hb⟩ hK
    gi_wp2
    exact hK _ _ ((KeepsOthers.alloc _ _).from _) (Calm.alloc _ _) ⟨⟨v, hv.alloc _, hr.alloc _, trivial⟩, hb.alloc hb.size _⟩ ⟨W.heap.size, by simp, blk_new W _, rfl⟩
  case body =>
    rintro l pre x a' W ⟨⟨v, hv, hr, _⟩, hb⟩ ⟨Bx, hBx, hx, rfl⟩ hlt
    have cv := hv.cell
    have lv := hv.lt
    have cx0 : W.cell? ⟨Bx, 0, none⟩ = some (.int .i64 x.1) := blk_cell hx 0
    have cx1 : W.cell? ⟨Bx, 1, none⟩ = some (.int .i64 x.2) := blk_cell hx 1
    have hcalm : ∀ j, v.ownBlock = some j → ∀ o, W.heap[j]? = some o → calmO o = false := fun j e o ho => by
      rcases hr.2 with ⟨rfl, _⟩ | ⟨g, cap, cur, rfl, _, hgb, _⟩
      · simp [Value.ownBlock] at e
      · obtain rfl : g = j := by simpa [Value.ownBlock] using e
        rw [hgb] at ho; cases ho; rfl
    have hpl : pre.length + 1 ≤ 1000000 := by omega
    have HC := Lib.hid hcalm
    clear hcalm hx
    gi_wp2_with (gi_at_builtin; refine wpListIn_append_own _ rfl _ _ 32 rfl w.heap.size 31 i0 (.agg #[.int .i64 0, .int .i64 0]) 2 16 Try.underlying32 hi hz0 hz1 hz2 rfl (by decide) _ _ _ rfl (hr.alloc _) ⟨W.heap.size, 0, none⟩ 1 1 [.int .i64 x.1, .int .i64 x.2] rfl rfl ?c1 ?c2 ?c3 ?c4 ?c5 ?_)
    case c1 => exact two_new rfl _ _ _
    case c2 => intro y hy; simp at hy; rcases hy with rfl | rfl <;> rfl
    case c3 => unfold maxLen; omega
    case c4 => omega
    case c5 => have := hb.size; rw [World.size_alloc]; omega
    intro v' w3 hown' hgrow _
    obtain ⟨g', cap', rfl⟩ := ownsRow_succ hown'
    obtain ⟨hv1, hv2, hr2, hk2, hb2⟩ := hv.appended (by decide) hr hb.size (Nat.le_refl _) hown' hgrow
    have hc1 := hv1.cell
    have hf1 := hv1.frozen
    have hcal : Calm W (w3.setCell ⟨w.heap.size, 0, none⟩ (.slice (some ⟨g', 0, none⟩) (pre.length + 1) cap')) := by
      refine ((Calm.alloc W _).trans (Calm.of_grownBy hgrow fun j e o ho => ?_)).trans (Calm.of_grownBy (grownBy_setCell' w3 w.heap.size _) fun j e o ho => ?_)
      · have hj : j < W.heap.size := (hr.lt j e).2
        exact HC.out j e o ((Below.heap_alloc W _ j hj).symm.trans ho)
      · cases e
        have h3 : w3.heap[w.heap.size]? = some (.cells #[v] 32) := hv1
        rw [h3] at ho; cases ho; rfl
    gi_wp2
    refine ⟨hk2.from _, ⟨_, hv2, ?_⟩, hb.trans hb2⟩
    rw [show refv (pre ++ [x]) = refv pre ++ [.int .i64 x.1, .int .i64 x.2] from refv_snoc pre x.1 x.2]
    exact hr2
  case done =>
    rintro D ys W hD rfl ⟨⟨v, hv, hr, _⟩, hb⟩ hK
    have cv := hv.cell
    have lv := hv.lt
    gi_wp2
    refine ⟨by simp, .inl ⟨_, _, rfl, run_takeDeferred hK, ?_⟩⟩
    refine ⟨v, results_tmp (t := 4) rfl _ _ _, v, rfl, ?_, hb.trans (belowK_b (w := w) (Nat.le_refl _) W D _ _ (by omega) hK rfl rfl)⟩
    rw [List.length_map] at hr
    exact ownsRow_putObj hr _ hK rfl

theorem IsChain.calm {X : Nat → Prop} {w : World} {c mb : Nat} {M : CS} (h : IsChain X w c mb M) : IsChain (fun i => i = c ∨ i = mb ∨ ∃ k n, cget M k = some n ∧ n.blk = i) w c mb M ∧
    ∀ i, (i = c ∨ i = mb ∨ ∃ k n, cget M k = some n ∧ n.blk = i) → ∃ o, w.heap[i]? = some o ∧ calmO o = true := by
  obtain ⟨h1, h2, h3, h4, h5, h6, h7, h8⟩ := h
  refine ⟨⟨.inl rfl, .inr (.inl rfl), h3, fun i hi => ?_, h5, h6, fun k n hk => ⟨.inr (.inr ⟨k, n, hk, rfl⟩), (h7 k n hk).2⟩, h8⟩, fun i hi => ?_⟩
  · rcases hi with rfl | rfl | ⟨k, n, hk, rfl⟩
    · exact h4 _ h1
    · exact h4 _ h2
    · exact h4 _ (h7 k n hk).1
  · rcases hi with rfl | rfl | ⟨k, n, hk, rfl⟩
    · exact ⟨_, h5, rfl⟩
    · obtain ⟨es, clk, hes, _⟩ := h6
      exact ⟨_, hes, rfl⟩
    · exact ⟨_, (h7 k n hk).2.2.2, rfl⟩

/-- 'back' of a chain. -/
theorem back_any {X : Nat → Prop} {w : World} {c mb : Nat} {M : CS} (h : IsChain X w c mb M) (k : Int) (xs : List CN) (hP : Path M k xs) (hlen : xs.length ≤ 1000000) :
    Calls Try.prog 15 #[.pointer (some ⟨c, 0, none⟩), .int .i64 k] w fun e w' => ∃ vo, e = .returned vo ∧ w'.ownsRow w.heap.size 31 2 vo xs.length (refv (xs.map refOf)) ∧ Below w.heap.size w w' := by
  obtain ⟨hc, hX⟩ := h.calm
  refine callsIn_wide.1 (back_n (some ⟨c, 0, none⟩) k xs w hlen (fun W Bc' Bk' hb b1 b2 => ?_) (fun x hx => ?_))
  · refine back1_calm 18 (by omega) Bc' Bk' k xs hP W b1 b2 (hc.belowN hc.lt hb) (fun i hi => ?_)
    obtain ⟨o, ho, hcal⟩ := hX i hi
    exact ⟨o, (hb.block i (blk_lt ho)).trans ho, hcal⟩
  · obtain ⟨q, hq⟩ := hP.mem x hx
    obtain ⟨_, _, _, _, _, _, h7, _⟩ := h
    exact (h7 q x hq).2.2.2
theorem back_nil (k : Int) (w : World) :
    Calls Try.prog 15 #[.pointer none, .int .i64 k] w fun e w' => ∃ vo, e = .returned vo ∧ w'.ownsRow w.heap.size 31 2 vo 0 [] ∧ Below w.heap.size w w' :=
  callsIn_wide.1 (back_n none k [] w (by simp) (fun W Bc' Bk' _ b1 b2 => back1_none 18 (by omega) Bc' Bk' k W b1 b2) (fun x hx => by cases hx))

end Go.Proofs.Ythflfafenehofaa
