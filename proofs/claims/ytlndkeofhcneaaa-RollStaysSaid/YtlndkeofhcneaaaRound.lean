/-
  A statement whose order is open, within a round of a loop over a function: operations that only read may be taken first, in every world in which the cells hold what they held.
-/
import Derived.OrdersIn
import Derived.TacticsIn
namespace Go.Proofs.Ytlndkeofhcneaaa

/-- One operation that makes no call, carried out: what it leaves. -/
def stepOp (P : Program) (ops : Array Oper) (i : Nat) (a : Act) (w : World) : Option (Act × World) :=
  match ops[i]? with
  | none => some (a, w)
  | some o =>
    if Region.wanted o (yielded ops a.tmps) = true then
      match (execOp a.eval o).run P w with
      | .ok (.value v) w' => some (a.put o.dst v, w')
      | .ok .skip w' => some (a.put o.dst undef, w')
      | _ => none
    else some (a.put o.dst undef, w)

/-- Whichever comes up, it is carried out, and S holds behind it, but behind the last one; at the end Q. -/
def Goes (P : Program) (ops : Array Oper) (S : World → Prop) (last : Nat) (Q : Act → World → Prop) : Nat → Array Bool → Act → World → Prop
  | 0, l, a, w => Region.ready .any ops l = [] ∧ Q a w
  | f + 1, l, a, w => (Region.ready .any ops l = [] → Q a w) ∧
      ∀ i ∈ Region.ready .any ops l, ∃ a' w', stepOp P ops i a w = some (a', w') ∧ (i = last ∨ S w') ∧ Goes P ops S last Q f (l.setIfInBounds i true) a' w'

def noDefer (ops : Array Oper) : Bool := ops.all fun o => match o.op with | .defer _ => false | _ => true

section
variable {P : Program} {ops : Array Oper} {S : World → Prop} {last : Nat} {Q : Act → World → Prop} {F : Fence} {n : Nat} {QQ : Exit → Act → World → Prop}

theorem noDefer_spec (h : noDefer ops = true) {o : Oper} {i : Nat} (ho : ops[i]? = some o) : ∀ c, o.op ≠ .defer c := by
  intro c e
  have h1 := Array.all_eq_true_iff_forall_mem.1 h o (Array.mem_of_getElem? ho)
  simp [e] at h1

theorem opIn_of_step (hF : ∀ f, F.fn f) (hd : noDefer ops = true) {i : Nat} {a a' : Act} {w w' : World} (h : stepOp P ops i a w = some (a', w')) {K : Act → World → Prop} (hK : K a' w') : wpOpIn F n P ops QQ i K a w := by
  unfold wpOpIn
  unfold stepOp at h
  cases ho : ops[i]? with
  | none => simp only [ho] at h; injection h with h; injection h with h1 h2; subst h1; subst h2; exact hK
  | some o =>
    simp only [ho] at h ⊢
    by_cases hw : Region.wanted o (yielded ops a.tmps) = true
    · rw [if_pos hw] at h ⊢
      refine ⟨fun f _ => hF f, ?_⟩
      rw [Oper.semAt_eq _ _ _ (noDefer_spec hd ho)]
      cases hr : (execOp a.eval o).run P w with
      | halt x w1 => rw [hr] at h; cases h
      | ok x w1 =>
        rw [hr] at h
        cases x <;> simp only [] at h <;> first | (cases h; done) | (cases h; exact hK)
    · rw [if_neg hw] at h ⊢
      injection h with h; injection h with h1 h2; subst h1; subst h2
      exact ⟨fun f _ => hF f, hK⟩

theorem anyIn_of_goes (hF : ∀ f, F.fn f) (hd : noDefer ops = true) (hQ : ∀ a w, Q a w → QQ .normal a w) :
    ∀ (f : Nat) (l : Array Bool) (a : Act) (w : World), Goes P ops S last Q f l a w → wpAnyIn F n P .any ops QQ f l a w
  | 0, _, _, _, h => ⟨h.1, hQ _ _ h.2⟩
  | f + 1, l, a, w, h => ⟨fun h0 => hQ _ _ (h.1 h0), fun i hi => by
      obtain ⟨a', w', hs, _, hg⟩ := h.2 i hi
      exact opIn_of_step hF hd hs (anyIn_of_goes hF hd hQ f _ a' w' hg)⟩

/-- In state a an operation leaves v, in every world that meets S, and does nothing else. -/
def Reads (P : Program) (ops : Array Oper) (S : World → Prop) (o : Oper) (v : Value) (a : Act) : Prop :=
  (Region.wanted o (yielded ops a.tmps) = true ∧ ∀ w, S w → (execOp a.eval o).run P w = .ok (.value v) w) ∨
  (Region.wanted o (yielded ops a.tmps) = false ∧ v = undef)

theorem Reads.step {i : Nat} {o : Oper} {v : Value} {a : Act} {w : World} (ho : ops[i]? = some o) (h : Reads P ops S o v a) (hS : S w) : stepOp P ops i a w = some (a.put o.dst v, w) := by
  unfold stepOp
  simp only [ho]
  rcases h with ⟨hw, hr⟩ | ⟨hw, rfl⟩
  · rw [if_pos hw, hr w hS]
  · rw [if_neg (by rw [hw]; simp)]

theorem Reads.past {oi oj : Oper} {v : Value} {a : Act} (hsi : ∀ cs b, oi.op ≠ .select cs b) (h3 : ∀ d, oj.dst = some d → d ∉ oi.looksAt ops) (h : Reads P ops S oi v a) (u : Value) : Reads P ops S oi v (a.put oj.dst u) := by
  unfold Reads at *
  rw [execOp_put oi hsi a oj.dst u h3, wanted_put oi a oj.dst u h3]
  exact h

/-- Another operation, apart from it, does the same whether it has come up or not. -/
theorem step_past {j : Nat} {oi oj : Oper} {v : Value} {a b : Act} {w w' : World} (hj : ops[j]? = some oj) (hap : oi.apart ops oj = true)
    (hsi : ∀ cs b, oi.op ≠ .select cs b) (hsj : ∀ cs b, oj.op ≠ .select cs b) (hr : Reads P ops S oi v a) (h : stepOp P ops j (a.put oi.dst v) w = some (b, w')) :
    ∃ a', stepOp P ops j a w = some (a', w') ∧ b = a'.put oi.dst v ∧ Reads P ops S oi v a' := by
  obtain ⟨h1, h2, h3⟩ := Oper.apart_spec hap
  unfold stepOp at h ⊢
  simp only [hj] at h ⊢
  rw [wanted_put oj a oi.dst v h1, execOp_put oj hsj a oi.dst v h1] at h
  by_cases hw : Region.wanted oj (yielded ops a.tmps) = true
  · rw [if_pos hw] at h ⊢
    cases hx : (execOp a.eval oj).run P w with
    | halt x w1 => rw [hx] at h; cases h
    | ok x w1 =>
      rw [hx] at h
      cases x <;> simp only [] at h <;> first | (cases h; done) | (cases h; exact ⟨_, rfl, Act.put_comm a v _ h2, hr.past hsi h3 _⟩)
  · rw [if_neg hw] at h ⊢
    injection h with h; injection h with e1 e2; subst e2
    exact ⟨_, rfl, by rw [← e1, Act.put_comm a v _ h2], hr.past hsi h3 _⟩

/-- The last one waits for this one. -/
def waits (ops : Array Oper) (last i : Nat) : Bool := (ops[last]?).any fun o => o.after.any fun e => Region.binds .any e && e.on == i
theorem waits_spec {i : Nat} {l : Array Bool} (h : waits ops last i = true) (hi : l.getD i true = false) : last ∉ Region.ready .any ops l := by
  intro hr
  obtain ⟨_, o, ho, hall⟩ := mem_ready.1 hr
  unfold waits at h
  rw [ho] at h
  simp only [Option.any_some] at h
  obtain ⟨e, he, hb⟩ := Array.any_eq_true'.1 h
  simp only [Bool.and_eq_true, beq_iff_eq] at hb
  have h1 := hall e he hb.1
  rw [hb.2] at h1
  rcases Nat.lt_or_ge i l.size with h' | h'
  · simp [h'] at hi h1; rw [hi] at h1; cases h1
  · simp [Array.getElem?_eq_none h'] at h1

theorem goes_first {i : Nat} {oi : Oper} {v : Value} (hi : ops[i]? = some oi) (hwt : waits ops last i = true) (hsel : ∀ (j : Nat) (o : Oper) cs b, ops[j]? = some o → o.op ≠ .select cs b) :
    ∀ (f : Nat) (l : Array Bool) (a : Act) (w : World),
      (∀ j oj, ops[j]? = some oj → j ≠ i → l.getD j true = false → (∀ e ∈ oj.after, Region.binds .any e = true → e.on ≠ i) → oi.apart ops oj = true) →
      i ∈ Region.ready .any ops l → Reads P ops S oi v a → S w → Goes P ops S last Q f (l.setIfInBounds i true) (a.put oi.dst v) w → Goes P ops S last Q (f + 1) l a w := by
  intro f
  induction f with
  | zero =>
    intro l a w _ hr hy hS H
    refine ⟨fun h => (by rw [h] at hr; cases hr), fun j hj => ?_⟩
    by_cases hji : j = i
    · subst hji; exact ⟨_, _, hy.step hi hS, .inr hS, H⟩
    · have := ready_mono hj hji
      rw [H.1] at this
      cases this
  | succ f ih =>
    intro l a w hfree hr hy hS H
    refine ⟨fun h => (by rw [h] at hr; cases hr), fun j hj => ?_⟩
    by_cases hji : j = i
    · subst hji; exact ⟨_, _, hy.step hi hS, .inr hS, H⟩
    · obtain ⟨b, w', hs, hS0, hg⟩ := H.2 j (ready_mono hj hji)
      obtain ⟨hjun, oj, hoj, hall⟩ := mem_ready.1 hj
      have hnot : ∀ e ∈ oj.after, Region.binds .any e = true → e.on ≠ i := fun e he hb heq => by
        have h1 := hall e he hb
        have h0 := (mem_ready.1 hr).1
        rw [heq] at h1
        rcases Nat.lt_or_ge i l.size with h' | h'
        · simp [h'] at h0 h1; rw [h0] at h1; cases h1
        · simp [Array.getElem?_eq_none h'] at h1
      obtain ⟨a', hs', hb, hy'⟩ := step_past hoj (hfree j oj hoj hji hjun hnot) (fun cs b => hsel i oi cs b hi) (fun cs b => hsel j oj cs b hoj) hy hs
      have hfree' : ∀ k ok, ops[k]? = some ok → k ≠ i → (l.setIfInBounds j true).getD k true = false → (∀ e ∈ ok.after, Region.binds .any e = true → e.on ≠ i) → oi.apart ops ok = true := fun k ok hk hki hun hno => by
        refine hfree k ok hk hki ?_ hno
        by_cases hjk : j = k
        · subst hjk; exact hjun
        · rw [getD_set_ne true hjk] at hun; exact hun
      have hS' : S w' := hS0.resolve_left fun e => waits_spec hwt (mem_ready.1 hr).1 (e ▸ hj)
      refine ⟨a', w', hs', .inr hS', ih (l.setIfInBounds j true) a' w' hfree' (ready_mono hr (Ne.symm hji)) hy' hS' ?_⟩
      rw [Array.setIfInBounds_comm _ _ hji, ← hb]
      exact hg

theorem goes_take {i : Nat} {oi : Oper} {v : Value} {f : Nat} {l : Array Bool} {a : Act} {w : World} (hi : ops[i]? = some oi) (hs : Region.noSelect ops = true) (hwt : waits ops last i = true)
    (hf : Region.free .any ops l i = true) (hr : (Region.ready .any ops l).contains i = true) (hy : Reads P ops S oi v a) (hS : S w)
    (h : Goes P ops S last Q f (l.setIfInBounds i true) (a.put oi.dst v) w) : Goes P ops S last Q (f + 1) l a w :=
  goes_first hi hwt (Region.noSelect_spec hs) f l a w (Region.free_spec hi hf) (by simpa using hr) hy hS h

/-- The one that alone may come up. -/
theorem goes_one {i : Nat} {f : Nat} {l : Array Bool} {a a' : Act} {w w' : World} (hr : Region.ready .any ops l = [i]) (hs : stepOp P ops i a w = some (a', w')) (hS : i = last ∨ S w')
    (h : Goes P ops S last Q f (l.setIfInBounds i true) a' w') : Goes P ops S last Q (f + 1) l a w :=
  ⟨fun h0 => (by rw [hr] at h0; cases h0), fun j hj => (by
    rw [hr] at hj
    obtain rfl : j = i := by simpa using hj
    exact ⟨a', w', hs, hS, h⟩)⟩

theorem goes_done {l : Array Bool} {a : Act} {w : World} (hr : Region.ready .any ops l = []) (h : Q a w) : Goes P ops S last Q 0 l a w := ⟨hr, h⟩

theorem region_goes {id : Nat} {a : Act} {w : World} (hF : ∀ f, F.fn f) (hm : P.follows .mixedOrders = true) (hd : noDefer ops = true)
    (h : Goes P ops S last (fun a w => QQ .normal a w) ops.size (Array.replicate ops.size false) a w.drew) : (Code.region id ops true).wpIn F n P QQ a w :=
  wpIn_region_any hm (anyIn_of_goes hF hd (fun _ _ h => h) _ _ _ _ h)

/-- The same with what is left written out. -/
theorem goes_take' {i : Nat} {oi : Oper} {d : Option Tmp} {v : Value} {f : Nat} {l l' : Array Bool} {a : Act} {w : World} (hi : ops[i]? = some oi) (hs : Region.noSelect ops = true) (hwt : waits ops last i = true)
    (hf : Region.free .any ops l i = true) (hr : (Region.ready .any ops l).contains i = true) (hd : oi.dst = d) (hl : l.setIfInBounds i true = l') (hy : Reads P ops S oi v a) (hS : S w)
    (h : Goes P ops S last Q f l' (a.put d v) w) : Goes P ops S last Q (f + 1) l a w := by
  subst hd; subst hl
  exact goes_take hi hs hwt hf hr hy hS h

theorem goes_one' {i : Nat} {f : Nat} {l l' : Array Bool} {a a' : Act} {w w' : World} (hr : Region.ready .any ops l = [i]) (hs : stepOp P ops i a w = some (a', w')) (hl : l.setIfInBounds i true = l') (hS : i = last ∨ S w')
    (h : Goes P ops S last Q f l' a' w') : Goes P ops S last Q (f + 1) l a w := by
  subst hl
  exact goes_one hr hs hS h

theorem region_goes' {id : Nat} {a : Act} {w : World} (N : Nat) {l : Array Bool} (hF : ∀ f, F.fn f) (hm : P.follows .mixedOrders = true) (hd : noDefer ops = true) (hN : ops.size = N) (hl : Array.replicate N false = l)
    (h : Goes P ops S last (fun a w => QQ .normal a w) N l a w.drew) : (Code.region id ops true).wpIn F n P QQ a w := by
  subst hN; subst hl
  exact region_goes hF hm hd h

theorem step_value {i : Nat} {o : Oper} {d : Option Tmp} {a : Act} {w w' : World} {v : Value} (ho : ops[i]? = some o) (hd : o.dst = d) (hw : Region.wanted o (yielded ops a.tmps) = true) (hr : (execOp a.eval o).run P w = .ok (.value v) w') :
    stepOp P ops i a w = some (a.put d v, w') := by
  subst hd
  unfold stepOp
  simp only [ho]
  rw [if_pos hw, hr]
theorem step_skip {i : Nat} {o : Oper} {d : Option Tmp} {a : Act} {w w' : World} (ho : ops[i]? = some o) (hd : o.dst = d) (hw : Region.wanted o (yielded ops a.tmps) = true) (hr : (execOp a.eval o).run P w = .ok .skip w') :
    stepOp P ops i a w = some (a.put d undef, w') := by
  subst hd
  unfold stepOp
  simp only [ho]
  rw [if_pos hw, hr]

end
end Go.Proofs.Ytlndkeofhcneaaa
