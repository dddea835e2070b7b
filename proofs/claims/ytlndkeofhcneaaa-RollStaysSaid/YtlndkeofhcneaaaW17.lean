/-
  The walk of same.
-/
import Derived.Test.YtlndkeofhcneaaaW13
import Derived.StillTailTactics
import Derived.Deep.QuietTactic
namespace Go.Proofs.Ytlndkeofhcneaaa
open Go.RowKit Go.Shelf

attribute [local go_sem] Oper.semAt_some

/-- Two entries tell the same. -/
structure AlikeE (c d : EN) : Prop where
  id : c.id = d.id
  to : c.to = d.to
  win : c.win = d.win
  left : c.sp.isSome = true
  right : d.sp.isSome = true
structure Alike (C D : List EN) : Prop where
  len : C.length = D.length
  each : ∀ (j : Nat) (c d : EN), C[j]? = some c → D[j]? = some d → AlikeE c d

theorem tab_kind {W : World} {sp : Option Addr} {sn sc : Nat} {win : Int} (h : TabOK W (.slice sp sn sc) win) (hs : sp.isSome = true) : ∃ b, sp = some ⟨b, 0, none⟩ ∧ sn = 1 := by
  rcases h with ⟨h, _⟩ | ⟨b, c, h, _⟩
  · cases h; cases hs
  · cases h; exact ⟨b, rfl, rfl⟩

theorem same_tab {W : World} {c d : EN} (hc : TabOK W (.slice c.sp c.sn c.sc) c.win) (hd : TabOK W (.slice d.sp d.sn d.sc) d.win) (h : AlikeE c d) :
    Calls Try.prog 25 #[tabV c.sp c.sn c.sc c.win, tabV d.sp d.sn d.sc d.win] W fun e w' => e = .returned (.bool true) ∧ Below W.heap.size W w' := by
  obtain ⟨b, e1, e2⟩ := tab_kind hc h.left
  obtain ⟨b', e3, e4⟩ := tab_kind hd h.right
  rw [e1, e2] at hc ⊢
  rw [e3, e4] at hd ⊢
  have := h.win
  rw [← this] at hd ⊢
  exact same_kind hc hd

set_option maxHeartbeats 4000000 in
theorem same_any {W : World} {a b : Value} {C D : List EN} (ha : IsEnts W a C) (hb : IsEnts W b D) (hs : Alike C D) (hl : C.length ≤ 1000) :
    Calls Try.prog 23 #[a, b] W fun e w' => e = .returned (.bool true) ∧ Below W.heap.size W w' := by
  obtain ⟨p, cap, rfl⟩ := ha.slice
  obtain ⟨p', cap', rfl⟩ := hb.slice
  have hlen := hs.len
  rw [← hlen] at hb ⊢
  have HA := Lib.hid ha
  have HB := Lib.hid hb
  have HS := Lib.hid hs
  have HL := Lib.hid hlen
  clear ha hb hs hlen
  go_enter Try.func23, Try.ntmps23
  go_wp2_with fail
  go_loopw [5] (fun vi wr => ∃ i : Nat, i ≤ C.length ∧ vi = .int .i64 (i : Int) ∧ Below W.heap.size W wr) (fun vi _ => C.length - (intOf vi).toNat)
  case atStart => exact ⟨0, Nat.zero_le _, rfl, Below.refl _ _⟩
  case round =>
    obtain ⟨i, hi, rfl, hbw⟩ := hrel
    have HW := Lib.hid hbw
    by_cases hlt : i < C.length
    · obtain ⟨c, hc⟩ : ∃ e, C[i]? = some e := ⟨_, List.getElem?_eq_getElem hlt⟩
      obtain ⟨d, hd⟩ : ∃ e, D[i]? = some e := ⟨_, List.getElem?_eq_getElem (by have := HL.out; omega)⟩
      have hcd := HS.out.each i c d hc hd
      have htc := (HA.out.below hbw).tab c (List.mem_of_getElem? hc)
      have htd := (HB.out.below hbw).tab d (List.mem_of_getElem? hd)
      rcases (HA.out.below hbw).cells with ⟨_, rfl⟩ | ⟨g, capx, e1, hg, hcap, hfr, hcell⟩
      · simp at hlt
      injection e1 with e1 e2 e3
      subst e1; subst e3
      obtain ⟨d0, d1, d2, d3, d4⟩ := hcell _ _ hc
      clear hcell hfr e2
      rcases (HB.out.below hbw).cells with ⟨_, rfl⟩ | ⟨g', capy, e1, hg', hcap', hfr, hcell⟩
      · simp at hd
      injection e1 with e1 e2 e3
      subst e1; subst e3
      obtain ⟨f0, f1, f2, f3, f4⟩ := hcell _ _ hd
      rw [← hcd.id] at f0
      rw [← hcd.to] at f1
      have HT := Lib.hid (And.intro htc (And.intro htd hcd))
      clear hcell hfr e2 htc htd hcd hc hd hbw
      go_wp2_with fail
      go_still_tail 10, (by kernel_rfl)
      change wpList _ _ _ _ _ wr.drew
      have hbd := below_drew wr
      have d0' := (hbd.cell (p := ⟨g, i * 5, none⟩) hg).trans d0
      have d1' := (hbd.cell (p := ⟨g, i * 5 + 1, none⟩) hg).trans d1
      have f0' := (hbd.cell (p := ⟨g', i * 5, none⟩) hg').trans f0
      have f1' := (hbd.cell (p := ⟨g', i * 5 + 1, none⟩) hg').trans f1
      have htc := HT.out.1.below hbd
      have htd := HT.out.2.1.below hbd
      have hgd := Nat.lt_of_lt_of_le hg hbd.size
      have hgd' := Nat.lt_of_lt_of_le hg' hbd.size
      have HD := Lib.hid (below_then HW.out hbd)
      have HX := Lib.hid HT.out.2.2
      generalize wr.drew = w2 at d0' d1' f0' f1' htc htd hgd hgd' HD ⊢
      clear hbd d0 d1 d2 d3 d4 f0 f1 f2 f3 f4 HT hg hg' HW
      have htc' := Lib.hid htc
      have htd' := Lib.hid htd
      clear htc htd
      go_wp2_with fail
      go_at_call 25
      refine (same_tab htc'.out htd'.out HX.out).mono ?_
      rintro e w3 ⟨rfl, hb3⟩
      have d0 := (hb3.cell (p := ⟨g, i * 5, none⟩) hgd).trans d0'
      have d1 := (hb3.cell (p := ⟨g, i * 5 + 1, none⟩) hgd).trans d1'
      have f0 := (hb3.cell (p := ⟨g', i * 5, none⟩) hgd').trans f0'
      have f1 := (hb3.cell (p := ⟨g', i * 5 + 1, none⟩) hgd').trans f1'
      have hg := Nat.lt_of_lt_of_le hgd hb3.size
      have hg' := Nat.lt_of_lt_of_le hgd' hb3.size
      have H3 := Lib.hid (below_then HD.out hb3)
      clear d0' d1' f0' f1' hgd hgd' HD hb3 htc' htd'
      go_wp2_with fail
      go_quiet (fail)
      have H4 := Lib.hid (below_then H3.out (below_drewN w3 nq))
      generalize w3.drewN nq = w4 at H4 ⊢
      clear d0 d1 f0 f1 hg hg' H3
      go_wp2_with fail
      refine ⟨⟨i + 1, by omega, by simp, H4.out⟩, by simp only [intOf]; omega⟩
    · clear hbw
      go_wp2_with fail
      go_ret
      exact ⟨rfl, HW.out⟩

end Go.Proofs.Ytlndkeofhcneaaa
