/-
  The walk of RollLives.
-/
import Derived.Test.YtlndkeofhcneaaaW10
import Derived.LaidEqlPtr
namespace Go.Proofs.Ytlndkeofhcneaaa
open Go.RowKit Go.Shelf

attribute [local go_sem] Oper.semAt_some

theorem and_mask_bd (x : Int) : 0 ≤ bits BinOp.and IntKind.i64 x 1073741823 ∧ bits BinOp.and IntKind.i64 x 1073741823 ≤ 1073741823 := by
  have h : (BitVec.ofInt IntKind.i64.bits x &&& BitVec.ofInt IntKind.i64.bits 1073741823).toNat ≤ 1073741823 := by
    rw [BitVec.toNat_and]
    exact Nat.le_trans Nat.and_le_right (by decide)
  have e : bits BinOp.and IntKind.i64 x 1073741823 = IntKind.i64.wrap (((BitVec.ofInt IntKind.i64.bits x &&& BitVec.ofInt IntKind.i64.bits 1073741823).toNat : Nat) : Int) := rfl
  rw [e, IntKind.wrap_i64]
  omega

theorem IsRoll.cell {W : World} {r v : Value} {C : List EN} (h : IsRoll W r v C) (hne : C ≠ []) : ∃ b, r = .pointer (some ⟨b, 0, none⟩) := by
  rcases h.ptr with ⟨_, _, h⟩ | ⟨b, h, _⟩
  · exact absurd h hne
  · exact ⟨b, h⟩

theorem live_one (a to at_ win : Int) (sp : Option Addr) (sn sc : Nat) (hto : to ≠ -1) : (liveC at_ [⟨a, to, win, sp, sn, sc⟩]).length = if a < at_ ∧ at_ ≤ to then 1 else 0 := by
  by_cases h1 : a < at_ <;> by_cases h2 : at_ ≤ to <;> simp [liveC, livesB, h1, h2, hto]
theorem live_on (a at_ win : Int) (sp : Option Addr) (sn sc : Nat) : (liveC at_ [⟨a, -1, win, sp, sn, sc⟩]).length = if a < at_ then 1 else 0 := by
  by_cases h1 : a < at_ <;> simp [liveC, livesB, h1]

theorem under24 : Try.prog.underlying 24 = some (.pointer 58) := by kernel_rfl
theorem info58 : (Try.prog.info? 58).isSome = true := by kernel_rfl
theorem run_eql_roll (a : Addr) (W : World) : (binOp .eql 24 (.pointer (some a)) (.pointer (some a))).run Try.prog W = .ok (.bool true) W := by
  obtain ⟨j, hj⟩ := Option.isSome_iff_exists.1 info58
  exact run_eql_ptr_same W a under24 hj

set_option maxHeartbeats 8000000 in
set_option maxRecDepth 100000 in
theorem lives_any (id long at_ : Int) (w : World) : Calls Try.prog 5 #[.int .i64 id, .int .i64 long, .int .i64 at_] w fun e w' => e = .returned (.bool true) ∧ Below w.heap.size w w' := by
  have ha := and_mask_bd id
  have hn := and_mask_bd long
  obtain ⟨a, ea⟩ : ∃ a, bits BinOp.and IntKind.i64 id 1073741823 = a := ⟨_, rfl⟩
  obtain ⟨n, en⟩ : ∃ n, bits BinOp.and IntKind.i64 long 1073741823 = n := ⟨_, rfl⟩
  rw [ea] at ha
  rw [en] at hn
  have f1 : IntKind.i64.wrap (1 + n) = 1 + n := by rw [IntKind.wrap_i64]; omega
  have f2 : IntKind.i64.wrap (a + (1 + n)) = a + (1 + n) := by rw [IntKind.wrap_i64]; omega
  have f3 : IntKind.i64.wrap (a + (1 + n) + 1) = a + (1 + n) + 1 := by rw [IntKind.wrap_i64]; omega
  go_enter Try.func5, Try.ntmps5
  go_wp2_with fail
  go_at_call 7
  refine (awake_any w).mono ?_
  rintro e w1 ⟨rfl, hb1⟩
  go_wp2_with fail
  try simp only [ea, en, f1]
  go_at_call 12
  refine (kind_any 3 w1).mono ?_
  rintro e w2 ⟨b, c, rfl, htab, hb2⟩
  go_wp2_with fail
  go_at_call 11
  refine (add_yes (IsRoll.nil w2) a (some ⟨b, 0, none⟩) 1 c 3 (by simp) htab ⟨ha.1, fun e h => by simp at h⟩).mono ?_
  rintro e w3 ⟨hb3, r3, v3, rfl, h3⟩
  rw [List.nil_append] at h3
  have as3 : Asc [⟨a, -1, 3, some ⟨b, 0, none⟩, 1, c⟩] := by
    have := Asc.nil.snoc (e := ⟨a, -1, 3, some ⟨b, 0, none⟩, 1, c⟩) (fun e h => by simp at h)
    rwa [List.nil_append] at this
  have HB3 := Lib.hid (below_then hb1 (below_then hb2 hb3))
  clear hb1 hb2 hb3 htab
  go_wp2_with fail
  try simp only [f2]
  go_at_call 9
  refine (end_yes h3 as3 a (a + (1 + n)) (by simp) 0 ⟨a, -1, 3, some ⟨b, 0, none⟩, 1, c⟩ rfl rfl rfl (by omega)).mono ?_
  rintro e w4 ⟨hb4, r4, v4, rfl, h4⟩
  have as4 := as3.set (i := 0) (c := ⟨a, -1, 3, some ⟨b, 0, none⟩, 1, c⟩) rfl (a + (1 + n))
  have H3 := Lib.hid (h3.below hb4)
  have HB4 := Lib.hid (below_then HB3.out hb4)
  clear h3 HB3 hb4
  simp only [List.set_cons_zero] at h4 as4
  go_wp2_with fail
  try simp only [f2, f3]
  go_at_call 9
  refine (end_no h4 as4 a (a + (1 + n) + 1) (by simp) (.inr ⟨0, _, rfl, rfl, .inl (by show a + (1 + n) ≠ -1; omega)⟩)).mono ?_
  rintro e w5 ⟨rfl, hb5⟩
  have H3' := Lib.hid (H3.out.below hb5)
  have H4 := Lib.hid (h4.below hb5)
  have HB5 := Lib.hid (below_then HB4.out hb5)
  clear H3 h4 HB4 hb5
  go_wp2_with fail
  go_at_call 9
  refine (end_no H3'.out as3 a a (by simp) (.inr ⟨0, _, rfl, rfl, .inr (Int.le_refl _)⟩)).mono ?_
  rintro e w6 ⟨rfl, hb6⟩
  have H3 := Lib.hid (H3'.out.below hb6)
  have H4' := Lib.hid (H4.out.below hb6)
  have HB6 := Lib.hid (below_then HB5.out hb6)
  clear H3' H4 HB5 hb6
  obtain ⟨p4, rfl⟩ := H4'.out.cell (by simp)
  obtain ⟨p3, rfl⟩ := H3.out.cell (by simp)
  have l4 := live_one a (a + (1 + n)) at_ 3 (some ⟨b, 0, none⟩) 1 c (by omega)
  have l3 := live_on a at_ 3 (some ⟨b, 0, none⟩) 1 c
  have ask : (a < at_ ∧ at_ ≤ a + (1 + n)) ∨ (a < at_ ∧ ¬ at_ ≤ a + (1 + n)) ∨ ¬ a < at_ := by omega
  clear as3 ea en
  rcases ask with ⟨q1, q2⟩ | ⟨q1, q2⟩ | q1
  case' inl => rw [if_pos ⟨q1, q2⟩] at l4; rw [if_pos q1] at l3
  case' inr.inl => rw [if_neg (by omega)] at l4; rw [if_pos q1] at l3
  case' inr.inr => rw [if_neg (by omega)] at l4; rw [if_neg q1] at l3
  all_goals
    go_wp2_with fail
    go_at_call 15
    refine (find_any H4'.out as4 (by simp) a).mono ?_
    rintro e w7 ⟨hb7, ht⟩
    obtain ⟨x, rfl, hx, -⟩ : ∃ x, e = .returned (.tuple #[entV x, .bool true]) ∧ x ∈ [⟨a, a + (1 + n), 3, some ⟨b, 0, none⟩, 1, c⟩] ∧ x.id = a := by
      rcases ht with h | ⟨_, h⟩
      · exact h
      · exact absurd rfl (h _ (List.mem_singleton.2 rfl))
    rw [List.mem_singleton] at hx
    subst hx
    unfold entV
    have H4 := Lib.hid (H4'.out.below hb7)
    have H3' := Lib.hid (H3.out.below hb7)
    have HB7 := Lib.hid (below_then HB6.out hb7)
    clear ht hb7 H4' H3 HB6
    go_wp2_with fail
    rw [run_eql_roll]
    go_wp2_with fail
    rw [run_eql_roll]
    go_wp2_with fail
    obtain ⟨w8, e8⟩ : ∃ w8, w7.alloc (Obj.cells #[Value.int IntKind.i64 a, Value.int IntKind.i64 (a + (1 + n)), Value.slice (some ⟨b, 0, none⟩) 1 c, Value.int IntKind.i64 3, Value.bool false] 48) = w8 := ⟨_, rfl⟩
    have hc8 : w8.cell? ⟨w7.heap.size, 1, none⟩ = some (.int .i64 (a + (1 + n))) := by rw [← e8]; exact blk_cell (blk_new _ _) 1
    have hlt8 : w7.heap.size < w8.heap.size := by rw [← e8]; exact blk_lt (blk_new _ _)
    have hb8 : Below w7.heap.size w7 w8 := by rw [← e8]; exact below_alloc _ _
    rw [e8]
    clear e8
    have H4' := Lib.hid (H4.out.below hb8)
    have H3 := Lib.hid (H3'.out.below hb8)
    have HB8 := Lib.hid (below_then HB7.out hb8)
    clear hb8 HB7 H4 H3'
    go_at_call 16
    refine (len_any at_ H4'.out (by simp)).mono ?_
    rintro e w9 ⟨rfl, hb9⟩
    rw [l4]
    have H4 := Lib.hid (H4'.out.below hb9)
    have H3' := Lib.hid (H3.out.below hb9)
    have HB9 := Lib.hid (below_then HB8.out hb9)
    have hc9 := (hb9.cell (p := ⟨w7.heap.size, 1, none⟩) hlt8).trans hc8
    have hlt9 := Nat.lt_of_lt_of_le hlt8 hb9.size
    clear H4' H3 HB8 hb9 hc8 hlt8
    go_wp2_with fail
    go_at_call 17
    refine (live_any at_ H4.out (by simp)).mono ?_
    rintro e w10 ⟨vo, rfl, hvo, hb10⟩
    obtain ⟨pv, cv, rfl⟩ := hvo.slice
    rw [l4]
    have H4' := Lib.hid (H4.out.below hb10)
    have H3 := Lib.hid (H3'.out.below hb10)
    have HB10 := Lib.hid (below_then HB9.out hb10)
    have hc10 := (hb10.cell (p := ⟨w7.heap.size, 1, none⟩) hlt9).trans hc9
    have hlt10 := Nat.lt_of_lt_of_le hlt9 hb10.size
    clear H4 H3' HB9 hb10 hc9 hlt9 hvo
    go_wp2_with fail
    go_at_call 16
    refine (len_any at_ H4'.out (by simp)).mono ?_
    rintro e w11 ⟨rfl, hb11⟩
    rw [l4]
    have H3' := Lib.hid (H3.out.below hb11)
    have HB11 := Lib.hid (below_then HB10.out hb11)
    have hc11 := (hb11.cell (p := ⟨w7.heap.size, 1, none⟩) hlt10).trans hc10
    have hlt11 := Nat.lt_of_lt_of_le hlt10 hb11.size
    clear H4' H3 HB10 hb11 hc10 hlt10
    go_wp2_with fail
    go_at_call 16
    refine (len_any at_ H3'.out (by simp)).mono ?_
    rintro e w12 ⟨rfl, hb12⟩
    rw [l3]
    have HB12 := Lib.hid (below_then HB11.out hb12)
    have hc12 := (hb12.cell (p := ⟨w7.heap.size, 1, none⟩) hlt11).trans hc11
    clear H3' HB11 hb12 hc11 hlt11
    go_wp2_with fail
    try simp only [f2]
    go_wp2_with fail
    go_ret
    refine ⟨?_, HB12.out⟩
    first
      | rfl
      | (show Ending.returned (.bool (!decide (a < at_))) = _; rw [decide_eq_false (Int.not_lt.2 q1)]; rfl)
      | (show Ending.returned (.bool (!decide (at_ ≤ a + (1 + n)))) = _; rw [decide_eq_false (Int.not_le.2 q2)]; rfl)

end Go.Proofs.Ytlndkeofhcneaaa
