/-
  No cell of these rows narrows 'for every input' (looked for: loops, veiled, ifaces, maps, wideKeys, modest, calm, conditions, laid).
  DERIVED. THE GIVEN ROWS OF THIS SEAT. 5 by the template 'for every input the law returns true; each argument reads behind the call as it read before'; 0 by the template 'total and deterministic' (their statements: YthflfafenehofaaTotals.lean).
  GIVEN WITH THE SEED: the statements are not yours to turn. If you find one false, say at which input.
  Laid BY PROGRAM, IN A SANDBOX (cutbox-rows.mjs): the forced cells as the released guide's own fill.sh prints them over the translation f52d9e7ddcf37af9… (all of the seat's roots in one cut). By AI agents, Wed Nov 11 2026. No macro, syntax, notation, axiom, sorry.
-/
import Derived.Test.YthflfafenehofaaChecked
import GoSem.Claim
import GoSem.ClaimJoined
import GoSem.ClaimMapViews
import Derived.JoinedTies
import Derived.KernelRfl
namespace Go.Proofs.Ythflfafenehofaa
/- THE CELL 'sum', in the pinned program and in every row, IS THE sha256 OF THE DUMP (.gsa) THAT YthflfafenehofaaProg.lean LOADS. Nothing in Lean hashes anything: it is a label: what it is worth is what the hold of that sum in a sandbox is worth. -/
noncomputable def Try.pinned : Pinned := { name := "ythflfafenehofaa", sum := "f52d9e7ddcf37af96c88fc91f0613801ce14c415808dadb5e0522a29f553816e", checked := Try.checked }
namespace Rows
def none {H : Type} : Left H := { results := [], args := [] }

/-- 'sibyllaw13.ChainDeep': WHATEVER THE INPUT: true; the input reads as it did. -/
def chainDeepSpec : ChangeSpec := { name := "chainDeep", fn := fun _ => fun
  | [d1, d2] => { results := [.lit (.bool true)], args := [d1, d2] }
  | _ => none }
def chainDeepRow : OpenClaim := { program := "ythflfafenehofaa", sum := "f52d9e7ddcf37af96c88fc91f0613801ce14c415808dadb5e0522a29f553816e", func := "sibyl/sibyllaw13.ChainDeep", spec := "chainDeep", unfollowed := true, recurses := true, apart := false }
def ChainDeepSaid : Prop := chainDeepRow.holds Try.pinned (OpenSpec.ofChange chainDeepSpec)

/-- ITS FALSE NEIGHBOUR: 'it returns false'. Refute it at one input. -/
def chainDeepWrong : ChangeSpec := { name := "chainDeep", fn := fun _ => fun
  | [d1, d2] => { results := [.lit (.bool false)], args := [d1, d2] }
  | _ => none }
def ChainDeepWrongFalsely : Prop := chainDeepRow.holds Try.pinned (OpenSpec.ofChange chainDeepWrong)

/-- 'sibyllaw13.ChainShares': WHATEVER THE INPUT: true; the input reads as it did. -/
def chainSharesSpec : ChangeSpec := { name := "chainShares", fn := fun _ => fun
  | [d1, d2, d3] => { results := [.lit (.bool true)], args := [d1, d2, d3] }
  | _ => none }
def chainSharesRow : OpenClaim := { program := "ythflfafenehofaa", sum := "f52d9e7ddcf37af96c88fc91f0613801ce14c415808dadb5e0522a29f553816e", func := "sibyl/sibyllaw13.ChainShares", spec := "chainShares", unfollowed := true, recurses := true, apart := false }
def ChainSharesSaid : Prop := chainSharesRow.holds Try.pinned (OpenSpec.ofChange chainSharesSpec)

/-- ITS FALSE NEIGHBOUR: 'it returns false'. Refute it at one input. -/
def chainSharesWrong : ChangeSpec := { name := "chainShares", fn := fun _ => fun
  | [d1, d2, d3] => { results := [.lit (.bool false)], args := [d1, d2, d3] }
  | _ => none }
def ChainSharesWrongFalsely : Prop := chainSharesRow.holds Try.pinned (OpenSpec.ofChange chainSharesWrong)

/-- 'sibyllaw13.ChainCounts': WHATEVER THE INPUT: true; the input reads as it did. -/
def chainCountsSpec : ChangeSpec := { name := "chainCounts", fn := fun _ => fun
  | [d] => { results := [.lit (.bool true)], args := [d] }
  | _ => none }
def chainCountsRow : OpenClaim := { program := "ythflfafenehofaa", sum := "f52d9e7ddcf37af96c88fc91f0613801ce14c415808dadb5e0522a29f553816e", func := "sibyl/sibyllaw13.ChainCounts", spec := "chainCounts", unfollowed := true, recurses := true, apart := false }
def ChainCountsSaid : Prop := chainCountsRow.holds Try.pinned (OpenSpec.ofChange chainCountsSpec)

/-- ITS FALSE NEIGHBOUR: 'it returns false'. Refute it at one input. -/
def chainCountsWrong : ChangeSpec := { name := "chainCounts", fn := fun _ => fun
  | [d] => { results := [.lit (.bool false)], args := [d] }
  | _ => none }
def ChainCountsWrongFalsely : Prop := chainCountsRow.holds Try.pinned (OpenSpec.ofChange chainCountsWrong)

/-- 'sibyllaw13.ChainPlays': WHATEVER THE INPUT: true; the input reads as it did. -/
def chainPlaysSpec : ChangeSpec := { name := "chainPlays", fn := fun _ => fun
  | [d] => { results := [.lit (.bool true)], args := [d] }
  | _ => none }
def chainPlaysRow : OpenClaim := { program := "ythflfafenehofaa", sum := "f52d9e7ddcf37af96c88fc91f0613801ce14c415808dadb5e0522a29f553816e", func := "sibyl/sibyllaw13.ChainPlays", spec := "chainPlays", unfollowed := true, recurses := true, apart := false }
def ChainPlaysSaid : Prop := chainPlaysRow.holds Try.pinned (OpenSpec.ofChange chainPlaysSpec)

/-- ITS FALSE NEIGHBOUR: 'it returns false'. Refute it at one input. -/
def chainPlaysWrong : ChangeSpec := { name := "chainPlays", fn := fun _ => fun
  | [d] => { results := [.lit (.bool false)], args := [d] }
  | _ => none }
def ChainPlaysWrongFalsely : Prop := chainPlaysRow.holds Try.pinned (OpenSpec.ofChange chainPlaysWrong)

/-- 'sibyllaw13.ChainNil': WHATEVER THE INPUT: true; the input reads as it did. -/
def chainNilSpec : ChangeSpec := { name := "chainNil", fn := fun _ => fun
  | [d] => { results := [.lit (.bool true)], args := [d] }
  | _ => none }
def chainNilRow : OpenClaim := { program := "ythflfafenehofaa", sum := "f52d9e7ddcf37af96c88fc91f0613801ce14c415808dadb5e0522a29f553816e", func := "sibyl/sibyllaw13.ChainNil", spec := "chainNil", unfollowed := true, recurses := true, apart := false }
def ChainNilSaid : Prop := chainNilRow.holds Try.pinned (OpenSpec.ofChange chainNilSpec)

/-- ITS FALSE NEIGHBOUR: 'it returns false'. Refute it at one input. -/
def chainNilWrong : ChangeSpec := { name := "chainNil", fn := fun _ => fun
  | [d] => { results := [.lit (.bool false)], args := [d] }
  | _ => none }
def ChainNilWrongFalsely : Prop := chainNilRow.holds Try.pinned (OpenSpec.ofChange chainNilWrong)

/- THE SECOND FORM. 'bulk': how many values and letters a reading holds, each counted each time it is reached (what is shared counts as often as it is met; a slice's spare places count too). A statement '..UptoSaid' is the law's where the arguments, and the package variables that the reading takes, are together of bulk at most 1048576: NARROWER than '..Said'. Prove '..Said' where nothing that the law and all that it calls make is longer than what came in: it says more and counts as full. Else prove '..UptoSaid'. A law counts once. -/
mutual
def uptoBulk {H : Type} : DataW H → Nat
  | .lit (.string bytes) => bytes.length + 1
  | .lit _ => 1
  | .nil => 1
  | .ptr d => uptoBulk d + 1
  | .slice elems spare => uptoBulkAll elems + uptoBulkAll spare + 1
  | .agg parts => uptoBulkAll parts + 1
  | .iface _ d => uptoBulk d + 1
  | .map entries => uptoBulkEntries entries + 1
  | .held _ => 1
def uptoBulkAll {H : Type} : List (DataW H) → Nat
  | [] => 0
  | d :: r => uptoBulk d + uptoBulkAll r
def uptoBulkEntries {H : Type} : List (Lit × DataW H) → Nat
  | [] => 0
  | x :: r => uptoBulkEntry x + uptoBulkEntries r
def uptoBulkEntry {H : Type} : Lit × DataW H → Nat
  | (.string bytes, d) => bytes.length + uptoBulk d + 1
  | (_, d) => uptoBulk d + 1
 end
def uptoSmall : (H : Type) → List (DataW H) → Bool := fun _ ds => decide (uptoBulkAll ds ≤ 1048576)
def OpenSpec.upto (s : _root_.Go.ChangeSpec) : _root_.Go.OpenSpec := { _root_.Go.OpenSpec.ofChange s with cond := some uptoSmall }

/-- 'sibyllaw13.ChainDeep', WHERE WHAT IT READS IS OF BULK AT MOST 1048576: true; the input reads as it did. -/
def chainDeepUptoRow : OpenClaim := { program := "ythflfafenehofaa", sum := "f52d9e7ddcf37af96c88fc91f0613801ce14c415808dadb5e0522a29f553816e", func := "sibyl/sibyllaw13.ChainDeep", spec := "chainDeep", unfollowed := true, recurses := true, apart := false, narrowed := true }
def ChainDeepUptoSaid : Prop := chainDeepUptoRow.holds Try.pinned (OpenSpec.upto chainDeepSpec)

/-- 'sibyllaw13.ChainShares', WHERE WHAT IT READS IS OF BULK AT MOST 1048576: true; the input reads as it did. -/
def chainSharesUptoRow : OpenClaim := { program := "ythflfafenehofaa", sum := "f52d9e7ddcf37af96c88fc91f0613801ce14c415808dadb5e0522a29f553816e", func := "sibyl/sibyllaw13.ChainShares", spec := "chainShares", unfollowed := true, recurses := true, apart := false, narrowed := true }
def ChainSharesUptoSaid : Prop := chainSharesUptoRow.holds Try.pinned (OpenSpec.upto chainSharesSpec)

/-- 'sibyllaw13.ChainCounts', WHERE WHAT IT READS IS OF BULK AT MOST 1048576: true; the input reads as it did. -/
def chainCountsUptoRow : OpenClaim := { program := "ythflfafenehofaa", sum := "f52d9e7ddcf37af96c88fc91f0613801ce14c415808dadb5e0522a29f553816e", func := "sibyl/sibyllaw13.ChainCounts", spec := "chainCounts", unfollowed := true, recurses := true, apart := false, narrowed := true }
def ChainCountsUptoSaid : Prop := chainCountsUptoRow.holds Try.pinned (OpenSpec.upto chainCountsSpec)

/-- 'sibyllaw13.ChainPlays', WHERE WHAT IT READS IS OF BULK AT MOST 1048576: true; the input reads as it did. -/
def chainPlaysUptoRow : OpenClaim := { program := "ythflfafenehofaa", sum := "f52d9e7ddcf37af96c88fc91f0613801ce14c415808dadb5e0522a29f553816e", func := "sibyl/sibyllaw13.ChainPlays", spec := "chainPlays", unfollowed := true, recurses := true, apart := false, narrowed := true }
def ChainPlaysUptoSaid : Prop := chainPlaysUptoRow.holds Try.pinned (OpenSpec.upto chainPlaysSpec)

/-- 'sibyllaw13.ChainNil', WHERE WHAT IT READS IS OF BULK AT MOST 1048576: true; the input reads as it did. -/
def chainNilUptoRow : OpenClaim := { program := "ythflfafenehofaa", sum := "f52d9e7ddcf37af96c88fc91f0613801ce14c415808dadb5e0522a29f553816e", func := "sibyl/sibyllaw13.ChainNil", spec := "chainNil", unfollowed := true, recurses := true, apart := false, narrowed := true }
def ChainNilUptoSaid : Prop := chainNilUptoRow.holds Try.pinned (OpenSpec.upto chainNilSpec)

end Rows
end Go.Proofs.Ythflfafenehofaa
