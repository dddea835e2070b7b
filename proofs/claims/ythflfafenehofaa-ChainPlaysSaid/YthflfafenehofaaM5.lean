/-
  The walks of rest and of does.
-/
import Derived.Test.YthflfafenehofaaM6
import Derived.Deep.RegionHeld3
import Derived.Test.YthflfafenehofaaP3
import Derived.Test.YthflfafenehofaaV3
namespace Go.Proofs.Ythflfafenehofaa
open Go.RowKit Go.Shelf

attribute [local go_sem] Oper.semAt_some

/-- A number's rest, from 0 on. -/
def restF (x n : Int) : Int := (x.tmod n + n).tmod n
theorem restF_bd (x n : Int) (h : 0 < n) : 0 ≤ restF x n ∧ restF x n < n := by
  have a2 := Int.lt_tmod_of_pos x h
  exact ⟨Int.tmod_nonneg _ (by omega), Int.tmod_lt_of_pos _ h⟩
set_option maxHeartbeats 1000000 in
theorem rest_any (x n : Int) (hn : 0 < n ∧ n ≤ 1000) (W : World) :
    Calls Try.prog 20 #[.int .i64 x, .int .i64 n] W fun e w' => e = .returned (.int .i64 (restF x n)) ∧ w' = W := by
  obtain ⟨h1, h2⟩ := hn
  go_enter Try.func20, Try.ntmps20
  go_wp2_with fail
  go_ret
  have a1 := Int.tmod_lt_of_pos x h1
  have a2 := Int.lt_tmod_of_pos x h1
  have e : wrap64 (x.tmod n + n) = x.tmod n + n := by unfold wrap64; omega
  refine ⟨?_, rfl⟩
  show Ending.returned (.int .i64 ((wrap64 (x.tmod n + n)).tmod n)) = _
  rw [e]; rfl

theorem and_one_bd (x : Int) : 0 ≤ bits BinOp.and IntKind.i64 x 1 ∧ bits BinOp.and IntKind.i64 x 1 ≤ 1 := by
  have h : (BitVec.ofInt IntKind.i64.bits x &&& BitVec.ofInt IntKind.i64.bits 1).toNat ≤ 1 := by
    rw [BitVec.toNat_and]
    exact Nat.le_trans Nat.and_le_right (by decide)
  have e : bits BinOp.and IntKind.i64 x 1 = IntKind.i64.wrap (((BitVec.ofInt IntKind.i64.bits x &&& BitVec.ofInt IntKind.i64.bits 1).toNat : Nat) : Int) := rfl
  rw [e, IntKind.wrap_i64]
  omega

theorem Sim.okR {M : CS} {R : List RN} {K : Int} (h : Sim M R (-1)) (hK : ∀ (j : Nat) (r : RN), R[j]? = some r → r.kept ≤ K) (hk : K ≤ 1000) : OkR R := fun j r hr => by
  have h1 := hK j r hr
  have h2 := h.kept j r hr
  refine ⟨by omega, ?_⟩
  rcases h.prev j r hr with h3 | ⟨i, p, h3, hlt, _⟩ <;> omega
theorem Sim.counts {M : CS} {R : List RN} {K : Int} (h : Sim M R (-1)) (hK : ∀ (j : Nat) (r : RN), R[j]? = some r → r.kept ≤ K) (hk : K ≤ 1000) (hl : R.length ≤ 1000) : ∀ k n, cget M k = some n → 0 ≤ n.count ∧ n.count ≤ 4611686018427387904 := fun k n hn => by
  rcases h.get k with ⟨_, h2⟩ | ⟨j, r, n', rfl, hr, _, _, h2, _, _, _, _, _, h3⟩
  · rw [h2] at hn; cases hn
  · rw [h2] at hn; injection hn with hn; subst hn
    have := hK j r hr
    have := h.kept j r hr
    have := kidsR_le R j
    omega

theorem DropsR.uniq {R : List RN} {k : Int} {o1 o2 : List (Int × Int)} {R1 R2 : List RN} (h : DropsR R k o1 R1) (h2 : DropsR R k o2 R2) : o1 = o2 ∧ R1 = R2 := by
  induction h generalizing o2 R2 with
  | @stop R k h =>
    cases h2 with
    | stop _ => exact ⟨rfl, rfl⟩
    | gone hr hc _ => rcases h with h | h <;> omega
  | @gone R R' j r out hr hc h ih =>
    generalize hk : (j : Int) = k at h2
    cases h2 with
    | stop h => subst hk; rcases h with h | h <;> omega
    | @gone _ _ j' r' out' hr' hc' h' =>
      obtain rfl : j = j' := by omega
      rw [hr] at hr'; injection hr' with hr'; subst hr'
      obtain ⟨e1, e2⟩ := ih h'
      exact ⟨by rw [e1], e2⟩

theorem DropsR.same {R : List RN} {k : Int} {out : List (Int × Int)} {R' : List RN} (h : DropsR R k out R') : ∀ (j : Nat) (r' : RN), R'[j]? = some r' → ∃ r0, R[j]? = some r0 ∧ r'.kept = r0.kept ∧ r'.prev = r0.prev ∧ r'.cell = r0.cell ∧ r'.num = r0.num ∧ r'.slot = r0.slot ∧ r'.gen = r0.gen ∧ (r0.gone = true → r'.gone = true) := by
  induction h with
  | stop _ => exact fun j r' h => ⟨r', h, rfl, rfl, rfl, rfl, rfl, rfl, fun h => h⟩
  | @gone R R' i r out hr hc h ih =>
    intro j r' hj
    obtain ⟨r0, h0, f⟩ := ih j r' hj
    rcases set_get h0 with ⟨rfl, rfl, _⟩ | ⟨_, h0'⟩
    · obtain ⟨f1, f2, f3, f4, f5, f6, f7⟩ := f
      exact ⟨r, hr, f1, f2, f3, f4, f5, f6, fun _ => f7 rfl⟩
    · exact ⟨r0, h0', f⟩

/-- A row of refs of one's own: its value, and its cells. -/
theorem refs_form {w : World} {base : Nat} {v : Value} {l : List (Int × Int)} (h : w.ownsRow base 31 2 v l.length (refv l)) :
    ∃ p cap, v = .slice p l.length cap ∧ ∀ (j : Nat) (r : Int × Int), l[j]? = some r → ∃ g, p = some ⟨g, 0, none⟩ ∧ g < w.heap.size ∧ w.cell? ⟨g, j * 2, none⟩ = some (.int .i64 r.1) ∧ w.cell? ⟨g, j * 2 + 1, none⟩ = some (.int .i64 r.2) := by
  rcases own_refs h with ⟨rfl, rfl⟩ | ⟨g, cap, rfl, _, hg, hc⟩
  · exact ⟨none, 0, rfl, fun j r hj => by simp at hj⟩
  · refine ⟨some ⟨g, 0, none⟩, cap, rfl, fun j r hj => ⟨g, rfl, hg, ?_⟩⟩
    have := hc j r hj
    rw [Nat.mul_comm] at this
    exact this

set_option maxHeartbeats 4000000 in
set_option maxRecDepth 100000 in
theorem does_any {B c mb m : Nat} {W : World} {M : CS} {R : List RN} {K : Int} (h : Both B c mb m W M R K) (hl : R.length ≤ 100) (hK : 0 ≤ K ∧ K ≤ 900) (kind at_ num : Int) :
    Calls Try.prog 16 #[.pointer (some ⟨c, 0, none⟩), .pointer (some ⟨m, 0, none⟩), .agg #[.int .i64 kind, .int .i64 at_, .int .i64 num]] W fun e w' => e = .returned (.bool true) ∧
      ∃ M' R', Both B c mb m w' M' R' (K + 1) ∧ R.length ≤ R'.length ∧ R'.length ≤ R.length + 1 ∧ Below B W w' := by
  obtain ⟨X, v, hch, href, hXY, hXB, hBm, hsim, hkK⟩ := h
  have hbA : Below W.heap.size W (W.alloc (.cells #[.int .i64 kind, .int .i64 at_, .int .i64 num] 48)) := (Below.refl _ W).alloc (Nat.le_refl _) _
  have hch1 := hch.below hbA
  have href1 := href.below hbA
  have hblk := blk_new W (.cells #[.int .i64 kind, .int .i64 at_, .int .i64 num] 48)
  have hml : m < W.heap.size := blk_lt href.blk
  have hmB : B ≤ W.heap.size := by omega
  obtain ⟨p, cap, rfl⟩ : ∃ p cap, v = .slice p R.length cap := by
    rcases href.cells.2.2.2 with ⟨e, e2⟩ | ⟨g, cap, e, _⟩
    · exact ⟨none, 0, by rw [e, e2]; rfl⟩
    · exact ⟨_, cap, e⟩
  obtain ⟨c1, c2, c3, _⟩ := href1.cells
  have a0 := blk_cell hblk 0
  have a1 := blk_cell hblk 1
  have a2 := blk_cell hblk 2
  have hbl := blk_lt hblk
  have r1 := restF_bd at_ ((R.length : Int) + 2) (by omega)
  have r2 := restF_bd kind 6 (by omega)
  obtain ⟨W1, hW1⟩ : ∃ W1, W.alloc (.cells #[.int .i64 kind, .int .i64 at_, .int .i64 num] 48) = W1 := ⟨_, rfl⟩
  rw [hW1] at hch1 href1 hbA hblk c1 c3 a0 a1 a2 hbl
  have HXL := Lib.hid hch.lt
  have HS := Lib.hid (And.intro hXY (And.intro hXB (And.intro hsim hkK)))
  simp at a0 a1 a2
  clear hXY hXB hsim hkK hch href hblk c2
  have rq1 := (rest_any at_ ((R.length : Int) + 2) (by omega))
  go_enter Try.func16, Try.ntmps16
  go_wp2_with fail
  go_quiet ((go_at_call 20; exact Calls.quiet_of ((rest_any at_ ((R.length : Int) + 2) (by omega) _).mono fun _ _ h => ⟨h.1, 0, h.2⟩)))
  go_wp2_with (go_at_call 20; refine (rest_any kind 6 (by omega) _).mono ?_; rintro e w2 ⟨rfl, rfl⟩)
  all_goals
    have hb2 : Below W1.heap.size W1 (W1.drewN nq) := below_drewN (Below.refl _ _) nq
    have hch2 := hch1.below hb2
    have href2 := href1.below hb2
    have hbW : Below B W (W1.drewN nq) := (hbA.mono hmB).trans (hb2.mono (Nat.le_trans hmB hbA.size))
    have hbo : Both B c mb m (W1.drewN nq) M R (K + 1) := ⟨X, _, hch2, href2, HS.out.1, HS.out.2.1, hBm, HS.out.2.2.1, fun j r hr => by have := HS.out.2.2.2 j r hr; omega⟩
    have b0 : (W1.drewN nq).cell? ⟨W.heap.size, 0, none⟩ = some (.int .i64 kind) := a0
    have b1 : (W1.drewN nq).cell? ⟨W.heap.size, 1, none⟩ = some (.int .i64 at_) := a1
    have b2 : (W1.drewN nq).cell? ⟨W.heap.size, 2, none⟩ = some (.int .i64 num) := a2
    have bm : (W1.drewN nq).cell? ⟨m, 0, none⟩ = some (.slice p R.length cap) := c1
    have bl : W.heap.size < (W1.drewN nq).heap.size := hbl
    have bml : m < (W1.drewN nq).heap.size := c3
    have hWW : W.heap.size ≤ (W1.drewN nq).heap.size := by omega
    generalize W1.drewN nq = W2 at hch2 href2 hbW hbo b0 b1 b2 bm bl bml hWW ⊢
    obtain ⟨id, hid⟩ : ∃ id : Int, restF at_ ((R.length : Int) + 2) - 1 = id := ⟨_, rfl⟩
    rw [hid]
    have hidb : -1 ≤ id ∧ id ≤ R.length := by omega
    clear hid r1 a0 a1 a2 c1 hbl c3 hb2 hbA href1 hch1 hW1 rq1
    obtain ⟨hXY, hXB, hsim, hkK⟩ := HS.out
    have hok : OkR R := hsim.okR hkK (by omega)
    have hcount := hsim.counts hkK (by omega) (by omega)
    have hg := hsim.get id
    have HT := Lib.hid (And.intro hXY (And.intro hXB (And.intro hsim (And.intro hkK (And.intro hok hcount)))))
    clear hXY hXB hsim hkK hok hcount
  · rcases hg with ⟨g1, g2⟩ | ⟨j, r, n, rfl, hr, hgn, g1, g2, e1, e2, e3, e4, e5, e6⟩
    · have G1 := Lib.hid g1
      clear g1
      go_at_call 22
      refine (keep_no hch2 g2).mono ?_
      rintro e w3 ⟨rfl, rfl⟩
      go_wp2_with fail
      go_at_call 27
      refine (rkeep_any href2 id (fun j r hj => (HT.out.2.2.2.2.1 j r hj).1)).mono ?_
      rintro e w4 (⟨_, rfl, rfl⟩ | ⟨j, r, rfl, hr, hg, _⟩)
      · go_wp2_with fail
        go_ret
        exact ⟨rfl, M, R, hbo, Nat.le_refl _, by omega, hbW⟩
      · exfalso
        have := G1.out
        simp [isR, hr, hg] at this
    · obtain ⟨hXY, hXB, hsim, hkK, hok, hcount⟩ := HT.out
      have hcn := hcount _ n g2
      go_at_call 22
      refine (keep_yes hch2 g2 hcn).mono ?_
      rintro e w3 ⟨rfl, hch3, hkp3⟩
      rw [Int.toNat_natCast] at hch3
      have href3 := href2.keep hkp3 hXY
      have hsim3 := hsim.keep hr hgn g2
      have hbW3 := hbW.trans (hkp3.below (Nat.le_trans hmB hWW) hXB)
      have hs3 := hkp3.size
      have HK := Lib.hid (And.intro hXY (And.intro hXB (And.intro hkK (And.intro hok (And.intro hsim3 (And.intro hr (And.intro hgn g1)))))))
      clear hXY hXB hsim hkK hok hcount hsim3 hr hgn g1 g2 e1 e2 e3 e4 e5 e6 hcn hch2 href2 hkp3
      go_wp2_with fail
      go_at_call 27
      refine (rkeep_any href3 (j : Int) (fun i q hq => (HK.out.2.2.2.1 i q hq).1)).mono ?_
      rintro e w4 (⟨hno, rfl, rfl⟩ | ⟨j', r', hjj, hr', hg', rfl, href4, hkp4⟩)
      · exfalso
        have := HK.out.2.2.2.2.2.2.2
        rw [hno] at this; cases this
      · have hres : ∃ M' R', Both B c mb m w4 M' R' (K + 1) ∧ R.length ≤ R'.length ∧ R'.length ≤ R.length + 1 ∧ Below B W w4 := by
          obtain ⟨hXY, hXB, hkK, hok, hsim3, hr, hgn, g1⟩ := HK.out
          obtain rfl : j = j' := by omega
          rw [hr] at hr'; injection hr' with hr'; subst hr'
          refine ⟨_, _, ⟨X, _, hch3.keep hkp4 fun i hi hy => hXY i hy hi, href4, hXY, hXB, hBm, hsim3, fun i q hq => ?_⟩, by rw [List.length_set]; exact Nat.le_refl _, by rw [List.length_set]; omega, hbW3.trans (hkp4.below (by omega) fun b hb => ?_)⟩
          · rcases set_get hq with ⟨rfl, rfl, _⟩ | ⟨_, hq'⟩
            · have := hkK _ r hr; dsimp only; omega
            · have := hkK i q hq'; omega
          · rcases hb with rfl | hb
            · exact hBm
            · exact (href4.own.lt b hb).1
        clear href4 hkp4 hch3 hr' href3
        go_wp2_with fail
        go_ret
        exact ⟨rfl, hres⟩

  · have G := Lib.hid hg
    rcases hg with ⟨g1, g2⟩ | ⟨j, r, n, rfl, hr, hgn, g1, g2, e1, e2, e3, e4, e5, e6⟩
    · go_at_call 17
      refine (ris_any href2 id).mono ?_
      rintro e w3 ⟨rfl, rfl⟩
      rw [g1]
      go_wp2_with fail
      go_at_call 11
      refine (drop_no hch2 id g2).mono ?_
      rintro e w3 ⟨rfl, rfl⟩
      go_wp2_with fail
      go_at_call 28
      refine (rdrop_no href2 id g1).mono ?_
      rintro e w3 ⟨rfl, rfl⟩
      clear g1 g2
      go_wp2_with fail
      go_loopw [14] (fun vi wr => vi = .int .i64 0 ∧ wr = W2) (fun _ _ => 0)
      case atStart => exact ⟨rfl, rfl⟩
      case round =>
        obtain ⟨rfl, rfl⟩ := hrel
        go_wp2_with fail
        go_ret
        exact ⟨rfl, M, R, hbo, Nat.le_refl _, by omega, hbW⟩
    · obtain ⟨_, _, _, hcc⟩ := href2.cells
      rcases hcc with ⟨_, e⟩ | ⟨g, cap', e, _, hgl, _, _, hcell⟩
      · subst e; simp at hr
      injection e with ea eb ec
      subst ea
      subst ec
      have hjl := (List.getElem?_eq_some_iff.1 hr).1
      have d5 := (hcell j r hr).2.2.2.2.2.1
      have HG := Lib.hid (And.intro hr (And.intro hgn g2))
      clear hcell hr hgn g2 e1 e2 e3 e4 e5 e6 eb
      go_at_call 17
      refine (ris_any href2 _).mono ?_
      rintro e w3 ⟨rfl, rfl⟩
      rw [g1]
      by_cases hk0 : r.kept = 0
      · rw [hk0] at d5
        go_wp2_with fail
        go_ret
        exact ⟨rfl, M, R, hbo, Nat.le_refl _, by omega, hbW⟩
      · have hne : (r.kept == 0) = false := by simpa using hk0
        obtain ⟨hXY, hXB, hsim, hkK, hok, hcount⟩ := HT.out
        obtain ⟨hr, hgn, g2⟩ := HG.out
        have hkp0 := hsim.kept j r hr
        have hpos : 1 ≤ r.kept := by omega
        have hlive := cnt_le M
        rw [hsim.len] at hlive
        obtain ⟨outS, MS, RS, s1, s2, s3, s4, s5⟩ := sim_drop R.length j M (R.set j { r with kept := r.kept - 1 }) (by omega) (by omega) (hsim.dropped hr hgn hpos)
        have hdy := drop_yes hch2 _ g2 hcount (by omega)
        have HK := Lib.hid (And.intro hXY (And.intro hXB (And.intro hkK (And.intro hok (And.intro s1 (And.intro s2 (And.intro s3 (And.intro s4 hkp0))))))))
        have hs4 : outS.length ≤ 1000 := by omega
        clear hXY hXB hsim hkK hok hcount s1 s2 s3 s4 s5 hr hgn g2 hkp0 hlive
        go_wp2_with fail
        go_at_call 11
        refine hdy.mono ?_
        rintro e w3 ⟨vo, out, M1, rfl, hd, hown, hch3, hkp3⟩
        obtain ⟨hXY, hXB, hkK, hok, s1, s2, s3, s4, hkp0⟩ := HK.out
        obtain ⟨eo, eM⟩ := Drops.uniq hd s1
        subst eM
        rw [eo] at hown
        have href3 := href2.keep hkp3 hXY
        have hbW3 := hbW.trans (hkp3.below (Nat.le_trans hmB hWW) hXB)
        have hs3 := hkp3.size
        have hry := rdrop_yes href3 hok (by omega) HG.out.1 HG.out.2.1 hkp0
        have hsl : ∀ b, YR m (.slice (some ⟨g, 0, none⟩) R.length cap) b → b < W2.heap.size := fun b hb => by
          rcases hb with rfl | hb
          · exact bml
          · have : g = b := by simpa [Value.ownBlock] using hb
            omega
        clear hXY hXB hkK hok s1 s2 s3 s4 hkp0 hdy hkp3 hch2 href2
        obtain ⟨po, co, rfl, hforma⟩ := refs_form hown
        have HA0 := Lib.hid hforma
        clear hforma
        go_wp2_with fail
        go_at_call 28
        refine hry.mono ?_
        rintro e w4 ⟨vr, out2, R2, rfl, hd2, hown2, href4, hkp4⟩
        obtain ⟨hXY, hXB, hkK, hok, s1, s2, s3, s4, hkp0⟩ := HK.out
        obtain ⟨eo2, eR⟩ := DropsR.uniq hd2 s2
        subst eR
        rw [eo2] at hown2
        obtain ⟨pr, cr, rfl, hformb⟩ := refs_form hown2
        have hown4 := keep_own hown hkp4 fun q hq hy => by have := hsl q hy; omega
        obtain ⟨po', co', e, hforma⟩ := refs_form hown4
        injection e with ea eb ec
        subst ea
        have hres : ∃ M' R', Both B c mb m w4 M' R' (K + 1) ∧ R.length ≤ R'.length ∧ R'.length ≤ R.length + 1 ∧ Below B W w4 := by
          rw [List.length_set] at s4
          refine ⟨_, _, ⟨X, _, hch3.keep hkp4 fun i hi hy => hXY i hy hi, href4, hXY, hXB, hBm, s3, fun i q hq => ?_⟩, by omega, by omega, hbW3.trans (hkp4.below (by omega) fun b hb => ?_)⟩
          · obtain ⟨q0, hq0, f1, _⟩ := hd2.same i q hq
            rcases set_get hq0 with ⟨rfl, rfl, _⟩ | ⟨_, hq0'⟩
            · have := hkK _ r HG.out.1; rw [f1]; dsimp only; omega
            · have := hkK i q0 hq0'; omega
          · rcases hb with rfl | hb
            · exact hBm
            · exact (href4.own.lt b hb).1
        have HA := Lib.hid hforma
        have HB := Lib.hid hformb
        have HR := Lib.hid hres
        clear hforma hformb hres hXY hXB hkK hok s1 s2 s3 s4 hkp0 hown hown2 hown4 hkp4 href4 href3 hch3 hd2 hry hsl eb ec eo eo2 hd
        go_wp2_with fail
        go_loopw [14] (fun vi wr => ∃ k nq : Nat, k ≤ outS.length ∧ vi = .int .i64 (k : Int) ∧ wr = w4.drewN nq) (fun vi _ => outS.length - (intOf vi).toNat)
        case atStart => exact ⟨0, 0, Nat.zero_le _, rfl, rfl⟩
        case round =>
          obtain ⟨k, nq2, hk, rfl, rfl⟩ := hrel
          by_cases hlt : k < outS.length
          · obtain ⟨q, hq⟩ : ∃ q, outS[k]? = some q := ⟨_, List.getElem?_eq_getElem hlt⟩
            obtain ⟨gA, rfl, hgA, q1, q2⟩ := HA.out k q hq
            obtain ⟨gB, rfl, hgB, q3, q4⟩ := HB.out k q hq
            clear hq
            go_wp2_with fail
            go_quiet (fail)
            go_wp2_with fail
            exact ⟨⟨k + 1, _, by omega, by go_num, rfl⟩, by simp [intOf]; omega⟩
          · go_wp2_with fail
            go_ret
            exact ⟨rfl, by obtain ⟨M2, R2, q1, q2, q3, q4⟩ := HR.out; exact ⟨M2, R2, q1.below (below_drewN (Below.refl _ _) _), q2, q3, q4.trans ((below_drewN (Below.refl _ _) _).mono (Nat.le_trans hmB q4.size))⟩⟩

  · have G := Lib.hid hg
    rcases hg with ⟨g1, g2⟩ | ⟨j, r, n, rfl, hr, hgn, g1, g2, e1, e2, e3, e4, e5, e6⟩
    · go_at_call 17
      refine (ris_any href2 id).mono ?_
      rintro e w3 ⟨rfl, rfl⟩
      rw [g1]
      go_wp2_with fail
      go_at_call 11
      refine (drop_no hch2 id g2).mono ?_
      rintro e w3 ⟨rfl, rfl⟩
      go_wp2_with fail
      go_at_call 28
      refine (rdrop_no href2 id g1).mono ?_
      rintro e w3 ⟨rfl, rfl⟩
      clear g1 g2
      go_wp2_with fail
      go_loopw [14] (fun vi wr => vi = .int .i64 0 ∧ wr = W2) (fun _ _ => 0)
      case atStart => exact ⟨rfl, rfl⟩
      case round =>
        obtain ⟨rfl, rfl⟩ := hrel
        go_wp2_with fail
        go_ret
        exact ⟨rfl, M, R, hbo, Nat.le_refl _, by omega, hbW⟩
    · obtain ⟨_, _, _, hcc⟩ := href2.cells
      rcases hcc with ⟨_, e⟩ | ⟨g, cap', e, _, hgl, _, _, hcell⟩
      · subst e; simp at hr
      injection e with ea eb ec
      subst ea
      subst ec
      have hjl := (List.getElem?_eq_some_iff.1 hr).1
      have d5 := (hcell j r hr).2.2.2.2.2.1
      have HG := Lib.hid (And.intro hr (And.intro hgn g2))
      clear hcell hr hgn g2 e1 e2 e3 e4 e5 e6 eb
      go_at_call 17
      refine (ris_any href2 _).mono ?_
      rintro e w3 ⟨rfl, rfl⟩
      rw [g1]
      by_cases hk0 : r.kept = 0
      · rw [hk0] at d5
        go_wp2_with fail
        go_ret
        exact ⟨rfl, M, R, hbo, Nat.le_refl _, by omega, hbW⟩
      · have hne : (r.kept == 0) = false := by simpa using hk0
        obtain ⟨hXY, hXB, hsim, hkK, hok, hcount⟩ := HT.out
        obtain ⟨hr, hgn, g2⟩ := HG.out
        have hkp0 := hsim.kept j r hr
        have hpos : 1 ≤ r.kept := by omega
        have hlive := cnt_le M
        rw [hsim.len] at hlive
        obtain ⟨outS, MS, RS, s1, s2, s3, s4, s5⟩ := sim_drop R.length j M (R.set j { r with kept := r.kept - 1 }) (by omega) (by omega) (hsim.dropped hr hgn hpos)
        have hdy := drop_yes hch2 _ g2 hcount (by omega)
        have HK := Lib.hid (And.intro hXY (And.intro hXB (And.intro hkK (And.intro hok (And.intro s1 (And.intro s2 (And.intro s3 (And.intro s4 hkp0))))))))
        have hs4 : outS.length ≤ 1000 := by omega
        clear hXY hXB hsim hkK hok hcount s1 s2 s3 s4 s5 hr hgn g2 hkp0 hlive
        go_wp2_with fail
        go_at_call 11
        refine hdy.mono ?_
        rintro e w3 ⟨vo, out, M1, rfl, hd, hown, hch3, hkp3⟩
        obtain ⟨hXY, hXB, hkK, hok, s1, s2, s3, s4, hkp0⟩ := HK.out
        obtain ⟨eo, eM⟩ := Drops.uniq hd s1
        subst eM
        rw [eo] at hown
        have href3 := href2.keep hkp3 hXY
        have hbW3 := hbW.trans (hkp3.below (Nat.le_trans hmB hWW) hXB)
        have hs3 := hkp3.size
        have hry := rdrop_yes href3 hok (by omega) HG.out.1 HG.out.2.1 hkp0
        have hsl : ∀ b, YR m (.slice (some ⟨g, 0, none⟩) R.length cap) b → b < W2.heap.size := fun b hb => by
          rcases hb with rfl | hb
          · exact bml
          · have : g = b := by simpa [Value.ownBlock] using hb
            omega
        clear hXY hXB hkK hok s1 s2 s3 s4 hkp0 hdy hkp3 hch2 href2
        obtain ⟨po, co, rfl, hforma⟩ := refs_form hown
        have HA0 := Lib.hid hforma
        clear hforma
        go_wp2_with fail
        go_at_call 28
        refine hry.mono ?_
        rintro e w4 ⟨vr, out2, R2, rfl, hd2, hown2, href4, hkp4⟩
        obtain ⟨hXY, hXB, hkK, hok, s1, s2, s3, s4, hkp0⟩ := HK.out
        obtain ⟨eo2, eR⟩ := DropsR.uniq hd2 s2
        subst eR
        rw [eo2] at hown2
        obtain ⟨pr, cr, rfl, hformb⟩ := refs_form hown2
        have hown4 := keep_own hown hkp4 fun q hq hy => by have := hsl q hy; omega
        obtain ⟨po', co', e, hforma⟩ := refs_form hown4
        injection e with ea eb ec
        subst ea
        have hres : ∃ M' R', Both B c mb m w4 M' R' (K + 1) ∧ R.length ≤ R'.length ∧ R'.length ≤ R.length + 1 ∧ Below B W w4 := by
          rw [List.length_set] at s4
          refine ⟨_, _, ⟨X, _, hch3.keep hkp4 fun i hi hy => hXY i hy hi, href4, hXY, hXB, hBm, s3, fun i q hq => ?_⟩, by omega, by omega, hbW3.trans (hkp4.below (by omega) fun b hb => ?_)⟩
          · obtain ⟨q0, hq0, f1, _⟩ := hd2.same i q hq
            rcases set_get hq0 with ⟨rfl, rfl, _⟩ | ⟨_, hq0'⟩
            · have := hkK _ r HG.out.1; rw [f1]; dsimp only; omega
            · have := hkK i q0 hq0'; omega
          · rcases hb with rfl | hb
            · exact hBm
            · exact (href4.own.lt b hb).1
        have HA := Lib.hid hforma
        have HB := Lib.hid hformb
        have HR := Lib.hid hres
        clear hforma hformb hres hXY hXB hkK hok s1 s2 s3 s4 hkp0 hown hown2 hown4 hkp4 href4 href3 hch3 hd2 hry hsl eb ec eo eo2 hd
        go_wp2_with fail
        go_loopw [14] (fun vi wr => ∃ k nq : Nat, k ≤ outS.length ∧ vi = .int .i64 (k : Int) ∧ wr = w4.drewN nq) (fun vi _ => outS.length - (intOf vi).toNat)
        case atStart => exact ⟨0, 0, Nat.zero_le _, rfl, rfl⟩
        case round =>
          obtain ⟨k, nq2, hk, rfl, rfl⟩ := hrel
          by_cases hlt : k < outS.length
          · obtain ⟨q, hq⟩ : ∃ q, outS[k]? = some q := ⟨_, List.getElem?_eq_getElem hlt⟩
            obtain ⟨gA, rfl, hgA, q1, q2⟩ := HA.out k q hq
            obtain ⟨gB, rfl, hgB, q3, q4⟩ := HB.out k q hq
            clear hq
            go_wp2_with fail
            go_quiet (fail)
            go_wp2_with fail
            exact ⟨⟨k + 1, _, by omega, by go_num, rfl⟩, by simp [intOf]; omega⟩
          · go_wp2_with fail
            go_ret
            exact ⟨rfl, by obtain ⟨M2, R2, q1, q2, q3, q4⟩ := HR.out; exact ⟨M2, R2, q1.below (below_drewN (Below.refl _ _) _), q2, q3, q4.trans ((below_drewN (Below.refl _ _) _).mono (Nat.le_trans hmB q4.size))⟩⟩

  · have hn1 := and_one_bd num
    have hn2 := hn1.1
    have hn3 := hn1.2
    clear hn1
    go_wp2_with fail
    go_at_call 17
    refine (ris_any href2 id).mono ?_
    rintro e w3 ⟨rfl, rfl⟩
    rcases hg with ⟨g1, g2⟩ | ⟨j, r, n, rfl, hr, hgn, g1, g2, e1, e2, e3, e4, e5, e6⟩
    · rw [g1]
      clear g1 g2
      go_wp2_with fail
      · go_region_held3 (fun w' => w'.cell? ⟨W.heap.size, 2, none⟩ = some (.int .i64 num) ∧ w'.cell? ⟨m, 0, none⟩ = some (.slice p R.length cap)) (go_keep) (fail)
        go_wp2_with fail
        obtain ⟨hXY, hXB, hsim, hkK, hok, hcount⟩ := HT.out
        have hb4 : Below W2.heap.size W2 ((W2.alloc (.cells #[.int .i64 num, .int .i64 (R.length : Int)] 31)).drew) := by
          have h0 : Below W2.heap.size W2 (W2.alloc (.cells #[.int .i64 num, .int .i64 (R.length : Int)] 31)) := (Below.refl _ _).alloc (Nat.le_refl _) _
          exact ⟨h0.os, h0.tape, h0.output, h0.size, h0.block⟩
        have hbx : ((W2.alloc (.cells #[.int .i64 num, .int .i64 (R.length : Int)] 31)).drew).heap[W2.heap.size]? = some (.cells #[.int .i64 num, .int .i64 (R.length : Int)] 31) := blk_new W2 (.cells #[.int .i64 num, .int .i64 (R.length : Int)] 31)
        have hsx := blk_lt hbx
        obtain ⟨a, b, hp⟩ := push_both (hch2.below hb4) (href2.below hb4) hXY hXB hBm hsim hkK hK hl (id) (bits BinOp.and IntKind.i64 num 1 + 1) num (R.length : Int)
        have hy2 : ((W2.alloc (.cells #[.int .i64 num, .int .i64 (R.length : Int)] 31)).drew).cell? ⟨W.heap.size, 2, none⟩ = some (.int .i64 num) := (hb4.cell (p := ⟨W.heap.size, 2, none⟩) bl).trans b2
        have hyl : W.heap.size < ((W2.alloc (.cells #[.int .i64 num, .int .i64 (R.length : Int)] 31)).drew).heap.size := Nat.lt_of_lt_of_le bl hb4.size
        have hbW4 : Below B W ((W2.alloc (.cells #[.int .i64 num, .int .i64 (R.length : Int)] 31)).drew) := hbW.trans (hb4.mono (Nat.le_trans hmB hWW))
        generalize ((W2.alloc (.cells #[.int .i64 num, .int .i64 (R.length : Int)] 31)).drew) = W4 at hp hbx hsx hy2 hyl hbW4 ⊢
        clear hb4 hXY hXB hsim hkK hok hcount hch2 href2
        refine hp.mono ?_
        rintro e w5 ⟨rfl, hkp5, hq⟩
        have z2 : w5.cell? ⟨W.heap.size, 2, none⟩ = some (.int .i64 num) := (hkp5.cell (p := ⟨W.heap.size, 2, none⟩) hyl (fun hx => by have := HXL.out _ hx; dsimp only at this; omega)).trans hy2
        have hn2 : ¬ X W2.heap.size := fun hx => by have := HXL.out _ hx; omega
        have z3 : w5.cell? ⟨W2.heap.size, 0, none⟩ = some (.int .i64 num) := (hkp5.cell (p := ⟨W2.heap.size, 0, none⟩) hsx hn2).trans (blk_cell hbx 0)
        have z4 : w5.cell? ⟨W2.heap.size, 1, none⟩ = some (.int .i64 (R.length : Int)) := (hkp5.cell (p := ⟨W2.heap.size, 1, none⟩) hsx hn2).trans (blk_cell hbx 1)
        have z5 : W.heap.size < w5.heap.size := by have := hkp5.size; omega
        have z6 : W2.heap.size < w5.heap.size := by have := hkp5.size; omega
        clear hp hkp5 hbx hsx hy2 hyl hn2 b0 b1 b2 bm
        go_wp2_with fail
        go_at_call 29
        refine hq.mono ?_
        rintro e w6 ⟨rfl, M', R', q1, q2, q3, q4⟩
        clear hq
        go_wp2_with fail
        go_ret
        exact ⟨by simp, M', R', q1, q2, q3, hbW4.trans q4⟩
      · go_region_held3 (fun w' => w'.cell? ⟨W.heap.size, 2, none⟩ = some (.int .i64 num) ∧ w'.cell? ⟨m, 0, none⟩ = some (.slice p R.length cap)) (go_keep) (fail)
        go_wp2_with fail
        obtain ⟨hXY, hXB, hsim, hkK, hok, hcount⟩ := HT.out
        have hb4 : Below W2.heap.size W2 ((W2.alloc (.cells #[.int .i64 num, .int .i64 (R.length : Int)] 31)).drew) := by
          have h0 : Below W2.heap.size W2 (W2.alloc (.cells #[.int .i64 num, .int .i64 (R.length : Int)] 31)) := (Below.refl _ _).alloc (Nat.le_refl _) _
          exact ⟨h0.os, h0.tape, h0.output, h0.size, h0.block⟩
        have hbx : ((W2.alloc (.cells #[.int .i64 num, .int .i64 (R.length : Int)] 31)).drew).heap[W2.heap.size]? = some (.cells #[.int .i64 num, .int .i64 (R.length : Int)] 31) := blk_new W2 (.cells #[.int .i64 num, .int .i64 (R.length : Int)] 31)
        have hsx := blk_lt hbx
        obtain ⟨a, b, hp⟩ := push_both (hch2.below hb4) (href2.below hb4) hXY hXB hBm hsim hkK hK hl (id) (bits BinOp.and IntKind.i64 num 1) num (R.length : Int)
        have hy2 : ((W2.alloc (.cells #[.int .i64 num, .int .i64 (R.length : Int)] 31)).drew).cell? ⟨W.heap.size, 2, none⟩ = some (.int .i64 num) := (hb4.cell (p := ⟨W.heap.size, 2, none⟩) bl).trans b2
        have hyl : W.heap.size < ((W2.alloc (.cells #[.int .i64 num, .int .i64 (R.length : Int)] 31)).drew).heap.size := Nat.lt_of_lt_of_le bl hb4.size
        have hbW4 : Below B W ((W2.alloc (.cells #[.int .i64 num, .int .i64 (R.length : Int)] 31)).drew) := hbW.trans (hb4.mono (Nat.le_trans hmB hWW))
        generalize ((W2.alloc (.cells #[.int .i64 num, .int .i64 (R.length : Int)] 31)).drew) = W4 at hp hbx hsx hy2 hyl hbW4 ⊢
        clear hb4 hXY hXB hsim hkK hok hcount hch2 href2
        refine hp.mono ?_
        rintro e w5 ⟨rfl, hkp5, hq⟩
        have z2 : w5.cell? ⟨W.heap.size, 2, none⟩ = some (.int .i64 num) := (hkp5.cell (p := ⟨W.heap.size, 2, none⟩) hyl (fun hx => by have := HXL.out _ hx; dsimp only at this; omega)).trans hy2
        have hn2 : ¬ X W2.heap.size := fun hx => by have := HXL.out _ hx; omega
        have z3 : w5.cell? ⟨W2.heap.size, 0, none⟩ = some (.int .i64 num) := (hkp5.cell (p := ⟨W2.heap.size, 0, none⟩) hsx hn2).trans (blk_cell hbx 0)
        have z4 : w5.cell? ⟨W2.heap.size, 1, none⟩ = some (.int .i64 (R.length : Int)) := (hkp5.cell (p := ⟨W2.heap.size, 1, none⟩) hsx hn2).trans (blk_cell hbx 1)
        have z5 : W.heap.size < w5.heap.size := by have := hkp5.size; omega
        have z6 : W2.heap.size < w5.heap.size := by have := hkp5.size; omega
        clear hp hkp5 hbx hsx hy2 hyl hn2 b0 b1 b2 bm
        go_wp2_with fail
        go_at_call 29
        refine hq.mono ?_
        rintro e w6 ⟨rfl, M', R', q1, q2, q3, q4⟩
        clear hq
        go_wp2_with fail
        go_ret
        exact ⟨by simp, M', R', q1, q2, q3, hbW4.trans q4⟩
    · obtain ⟨_, _, _, hcc⟩ := href2.cells
      rcases hcc with ⟨_, e⟩ | ⟨g, cap', e, _, hgl, _, _, hcell⟩
      · subst e; simp at hr
      injection e with ea eb ec
      subst ea
      subst ec
      have hjl := (List.getElem?_eq_some_iff.1 hr).1
      have d1 := (hcell j r hr).2.1
      have hcl := HT.out.2.2.1.cell j r hr
      obtain ⟨hcl1, hcl2⟩ := hcl
      rw [g1]
      clear hcell hr hgn g1 g2 e1 e2 e3 e4 e5 e6 eb
      go_wp2_with fail
      go_quiet (fail)
      go_wp2_with fail
      · have hbq : Below W2.heap.size W2 (W2.drewN nq) := below_drewN (Below.refl _ _) nq
        have hchq := hch2.below hbq
        have hrefq := href2.below hbq
        have hbWq := hbW.trans (hbq.mono (Nat.le_trans hmB hWW))
        have b2q : (W2.drewN nq).cell? ⟨W.heap.size, 2, none⟩ = some (.int .i64 num) := b2
        have bmq : (W2.drewN nq).cell? ⟨m, 0, none⟩ = some (.slice (some ⟨g, 0, none⟩) R.length cap) := bm
        have blq : W.heap.size < (W2.drewN nq).heap.size := bl
        have hWWq : W.heap.size ≤ (W2.drewN nq).heap.size := hWW
        have bmlq : m < (W2.drewN nq).heap.size := bml
        generalize W2.drewN nq = W3 at hchq hrefq hbWq b2q bmq blq hWWq bmlq ⊢
        clear hbq hch2 href2 hbW b0 b1 b2 bm bl bml hWW hbo
        go_region_held3 (fun w' => w'.cell? ⟨W.heap.size, 2, none⟩ = some (.int .i64 num) ∧ w'.cell? ⟨m, 0, none⟩ = some (.slice (some ⟨g, 0, none⟩) R.length cap)) (go_keep) (fail)
        go_wp2_with fail
        obtain ⟨hXY, hXB, hsim, hkK, hok, hcount⟩ := HT.out
        have hb4 : Below W3.heap.size W3 ((W3.alloc (.cells #[.int .i64 num, .int .i64 (R.length : Int)] 31)).drew) := by
          have h0 : Below W3.heap.size W3 (W3.alloc (.cells #[.int .i64 num, .int .i64 (R.length : Int)] 31)) := (Below.refl _ _).alloc (Nat.le_refl _) _
          exact ⟨h0.os, h0.tape, h0.output, h0.size, h0.block⟩
        have hbx : ((W3.alloc (.cells #[.int .i64 num, .int .i64 (R.length : Int)] 31)).drew).heap[W3.heap.size]? = some (.cells #[.int .i64 num, .int .i64 (R.length : Int)] 31) := blk_new W3 (.cells #[.int .i64 num, .int .i64 (R.length : Int)] 31)
        have hsx := blk_lt hbx
        obtain ⟨a, b, hp⟩ := push_both (hchq.below hb4) (hrefq.below hb4) hXY hXB hBm hsim hkK hK hl (j) (r.cell + bits BinOp.and IntKind.i64 num 1 + 1) num (R.length : Int)
        have hy2 : ((W3.alloc (.cells #[.int .i64 num, .int .i64 (R.length : Int)] 31)).drew).cell? ⟨W.heap.size, 2, none⟩ = some (.int .i64 num) := (hb4.cell (p := ⟨W.heap.size, 2, none⟩) blq).trans b2q
        have hyl : W.heap.size < ((W3.alloc (.cells #[.int .i64 num, .int .i64 (R.length : Int)] 31)).drew).heap.size := Nat.lt_of_lt_of_le blq hb4.size
        have hbW4 : Below B W ((W3.alloc (.cells #[.int .i64 num, .int .i64 (R.length : Int)] 31)).drew) := hbWq.trans (hb4.mono (Nat.le_trans hmB hWWq))
        generalize ((W3.alloc (.cells #[.int .i64 num, .int .i64 (R.length : Int)] 31)).drew) = W4 at hp hbx hsx hy2 hyl hbW4 ⊢
        clear hb4 hXY hXB hsim hkK hok hcount hchq hrefq
        refine hp.mono ?_
        rintro e w5 ⟨rfl, hkp5, hq⟩
        have z2 : w5.cell? ⟨W.heap.size, 2, none⟩ = some (.int .i64 num) := (hkp5.cell (p := ⟨W.heap.size, 2, none⟩) hyl (fun hx => by have := HXL.out _ hx; dsimp only at this; omega)).trans hy2
        have hn2 : ¬ X W3.heap.size := fun hx => by have := HXL.out _ hx; omega
        have z3 : w5.cell? ⟨W3.heap.size, 0, none⟩ = some (.int .i64 num) := (hkp5.cell (p := ⟨W3.heap.size, 0, none⟩) hsx hn2).trans (blk_cell hbx 0)
        have z4 : w5.cell? ⟨W3.heap.size, 1, none⟩ = some (.int .i64 (R.length : Int)) := (hkp5.cell (p := ⟨W3.heap.size, 1, none⟩) hsx hn2).trans (blk_cell hbx 1)
        have z5 : W.heap.size < w5.heap.size := by have := hkp5.size; omega
        have z6 : W3.heap.size < w5.heap.size := by have := hkp5.size; omega
        clear hp hkp5 hbx hsx hy2 hyl hn2 b2q bmq
        go_wp2_with fail
        go_at_call 29
        refine hq.mono ?_
        rintro e w6 ⟨rfl, M', R', q1, q2, q3, q4⟩
        clear hq
        go_wp2_with fail
        go_ret
        exact ⟨by simp, M', R', q1, q2, q3, hbW4.trans q4⟩
      · have hbq : Below W2.heap.size W2 (W2.drewN nq) := below_drewN (Below.refl _ _) nq
        have hchq := hch2.below hbq
        have hrefq := href2.below hbq
        have hbWq := hbW.trans (hbq.mono (Nat.le_trans hmB hWW))
        have b2q : (W2.drewN nq).cell? ⟨W.heap.size, 2, none⟩ = some (.int .i64 num) := b2
        have bmq : (W2.drewN nq).cell? ⟨m, 0, none⟩ = some (.slice (some ⟨g, 0, none⟩) R.length cap) := bm
        have blq : W.heap.size < (W2.drewN nq).heap.size := bl
        have hWWq : W.heap.size ≤ (W2.drewN nq).heap.size := hWW
        have bmlq : m < (W2.drewN nq).heap.size := bml
        generalize W2.drewN nq = W3 at hchq hrefq hbWq b2q bmq blq hWWq bmlq ⊢
        clear hbq hch2 href2 hbW b0 b1 b2 bm bl bml hWW hbo
        go_region_held3 (fun w' => w'.cell? ⟨W.heap.size, 2, none⟩ = some (.int .i64 num) ∧ w'.cell? ⟨m, 0, none⟩ = some (.slice (some ⟨g, 0, none⟩) R.length cap)) (go_keep) (fail)
        go_wp2_with fail
        obtain ⟨hXY, hXB, hsim, hkK, hok, hcount⟩ := HT.out
        have hb4 : Below W3.heap.size W3 ((W3.alloc (.cells #[.int .i64 num, .int .i64 (R.length : Int)] 31)).drew) := by
          have h0 : Below W3.heap.size W3 (W3.alloc (.cells #[.int .i64 num, .int .i64 (R.length : Int)] 31)) := (Below.refl _ _).alloc (Nat.le_refl _) _
          exact ⟨h0.os, h0.tape, h0.output, h0.size, h0.block⟩
        have hbx : ((W3.alloc (.cells #[.int .i64 num, .int .i64 (R.length : Int)] 31)).drew).heap[W3.heap.size]? = some (.cells #[.int .i64 num, .int .i64 (R.length : Int)] 31) := blk_new W3 (.cells #[.int .i64 num, .int .i64 (R.length : Int)] 31)
        have hsx := blk_lt hbx
        obtain ⟨a, b, hp⟩ := push_both (hchq.below hb4) (hrefq.below hb4) hXY hXB hBm hsim hkK hK hl (j) (r.cell + bits BinOp.and IntKind.i64 num 1) num (R.length : Int)
        have hy2 : ((W3.alloc (.cells #[.int .i64 num, .int .i64 (R.length : Int)] 31)).drew).cell? ⟨W.heap.size, 2, none⟩ = some (.int .i64 num) := (hb4.cell (p := ⟨W.heap.size, 2, none⟩) blq).trans b2q
        have hyl : W.heap.size < ((W3.alloc (.cells #[.int .i64 num, .int .i64 (R.length : Int)] 31)).drew).heap.size := Nat.lt_of_lt_of_le blq hb4.size
        have hbW4 : Below B W ((W3.alloc (.cells #[.int .i64 num, .int .i64 (R.length : Int)] 31)).drew) := hbWq.trans (hb4.mono (Nat.le_trans hmB hWWq))
        generalize ((W3.alloc (.cells #[.int .i64 num, .int .i64 (R.length : Int)] 31)).drew) = W4 at hp hbx hsx hy2 hyl hbW4 ⊢
        clear hb4 hXY hXB hsim hkK hok hcount hchq hrefq
        refine hp.mono ?_
        rintro e w5 ⟨rfl, hkp5, hq⟩
        have z2 : w5.cell? ⟨W.heap.size, 2, none⟩ = some (.int .i64 num) := (hkp5.cell (p := ⟨W.heap.size, 2, none⟩) hyl (fun hx => by have := HXL.out _ hx; dsimp only at this; omega)).trans hy2
        have hn2 : ¬ X W3.heap.size := fun hx => by have := HXL.out _ hx; omega
        have z3 : w5.cell? ⟨W3.heap.size, 0, none⟩ = some (.int .i64 num) := (hkp5.cell (p := ⟨W3.heap.size, 0, none⟩) hsx hn2).trans (blk_cell hbx 0)
        have z4 : w5.cell? ⟨W3.heap.size, 1, none⟩ = some (.int .i64 (R.length : Int)) := (hkp5.cell (p := ⟨W3.heap.size, 1, none⟩) hsx hn2).trans (blk_cell hbx 1)
        have z5 : W.heap.size < w5.heap.size := by have := hkp5.size; omega
        have z6 : W3.heap.size < w5.heap.size := by have := hkp5.size; omega
        clear hp hkp5 hbx hsx hy2 hyl hn2 b2q bmq
        go_wp2_with fail
        go_at_call 29
        refine hq.mono ?_
        rintro e w6 ⟨rfl, M', R', q1, q2, q3, q4⟩
        clear hq
        go_wp2_with fail
        go_ret
        exact ⟨by simp, M', R', q1, q2, q3, hbW4.trans q4⟩


end Go.Proofs.Ythflfafenehofaa
