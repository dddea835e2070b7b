/-
  No cell of these rows narrows 'for every input' (looked for: loops, veiled, ifaces, maps, wideKeys, modest, calm, conditions, laid).
  DERIVED. THE GIVEN ROWS OF THIS SEAT. 4 by the template 'for every input the law returns true; each argument reads behind the call as it read before'; 0 by the template 'total and deterministic' (their statements: YtlndkeofhcneaaaTotals.lean).
  GIVEN WITH THE SEED: the statements are not yours to turn. If you find one false, say at which input.
  Laid BY PROGRAM, IN A SANDBOX (cutbox-rows.mjs): the forced cells as the released guide's own fill.sh prints them over the translation 3564e6c035237507… (all of the seat's roots in one cut). By AI agents, Wed Nov 11 2026. No macro, syntax, notation, axiom, sorry.
-/
import Derived.Test.YtlndkeofhcneaaaChecked
import GoSem.Claim
import GoSem.ClaimJoined
import GoSem.ClaimMapViews
import Derived.JoinedTies
import Derived.KernelRfl
namespace Go.Proofs.Ytlndkeofhcneaaa
/- THE CELL 'sum', in the pinned program and in every row, IS THE sha256 OF THE DUMP (.gsa) THAT YtlndkeofhcneaaaProg.lean LOADS. Nothing in Lean hashes anything: it is a label: what it is worth is what the hold of that sum in a sandbox is worth. -/
noncomputable def Try.pinned : Pinned := { name := "ytlndkeofhcneaaa", sum := "3564e6c0352375077a044f7a9231e7a5efa83ba2f8e57af3fa338001b4ab4b88", checked := Try.checked }
namespace Rows
def none {H : Type} : Left H := { results := [], args := [] }

/-- 'sibyllaw15.RollPlays': WHATEVER THE INPUT: true; the input reads as it did. -/
def rollPlaysSpec : ChangeSpec := { name := "rollPlays", fn := fun _ => fun
  | [d1, d2] => { results := [.lit (.bool true)], args := [d1, d2] }
  | _ => none }
def rollPlaysRow : OpenClaim := { program := "ytlndkeofhcneaaa", sum := "3564e6c0352375077a044f7a9231e7a5efa83ba2f8e57af3fa338001b4ab4b88", func := "sibyl/sibyllaw15.RollPlays", spec := "rollPlays", unfollowed := true, recurses := true, apart := false }
def RollPlaysSaid : Prop := rollPlaysRow.holds Try.pinned (OpenSpec.ofChange rollPlaysSpec)

/-- ITS FALSE NEIGHBOUR: 'it returns false'. Refute it at one input. -/
def rollPlaysWrong : ChangeSpec := { name := "rollPlays", fn := fun _ => fun
  | [d1, d2] => { results := [.lit (.bool false)], args := [d1, d2] }
  | _ => none }
def RollPlaysWrongFalsely : Prop := rollPlaysRow.holds Try.pinned (OpenSpec.ofChange rollPlaysWrong)

/-- 'sibyllaw15.RollStays': WHATEVER THE INPUT: true; the input reads as it did. -/
def rollStaysSpec : ChangeSpec := { name := "rollStays", fn := fun _ => fun
  | [d1, d2] => { results := [.lit (.bool true)], args := [d1, d2] }
  | _ => none }
def rollStaysRow : OpenClaim := { program := "ytlndkeofhcneaaa", sum := "3564e6c0352375077a044f7a9231e7a5efa83ba2f8e57af3fa338001b4ab4b88", func := "sibyl/sibyllaw15.RollStays", spec := "rollStays", unfollowed := true, recurses := true, apart := false }
def RollStaysSaid : Prop := rollStaysRow.holds Try.pinned (OpenSpec.ofChange rollStaysSpec)

/-- ITS FALSE NEIGHBOUR: 'it returns false'. Refute it at one input. -/
def rollStaysWrong : ChangeSpec := { name := "rollStays", fn := fun _ => fun
  | [d1, d2] => { results := [.lit (.bool false)], args := [d1, d2] }
  | _ => none }
def RollStaysWrongFalsely : Prop := rollStaysRow.holds Try.pinned (OpenSpec.ofChange rollStaysWrong)

/-- 'sibyllaw15.RollLives': WHATEVER THE INPUT: true; the input reads as it did. -/
def rollLivesSpec : ChangeSpec := { name := "rollLives", fn := fun _ => fun
  | [d1, d2, d3] => { results := [.lit (.bool true)], args := [d1, d2, d3] }
  | _ => none }
def rollLivesRow : OpenClaim := { program := "ytlndkeofhcneaaa", sum := "3564e6c0352375077a044f7a9231e7a5efa83ba2f8e57af3fa338001b4ab4b88", func := "sibyl/sibyllaw15.RollLives", spec := "rollLives", unfollowed := true, recurses := true, apart := false }
def RollLivesSaid : Prop := rollLivesRow.holds Try.pinned (OpenSpec.ofChange rollLivesSpec)

/-- ITS FALSE NEIGHBOUR: 'it returns false'. Refute it at one input. -/
def rollLivesWrong : ChangeSpec := { name := "rollLives", fn := fun _ => fun
  | [d1, d2, d3] => { results := [.lit (.bool false)], args := [d1, d2, d3] }
  | _ => none }
def RollLivesWrongFalsely : Prop := rollLivesRow.holds Try.pinned (OpenSpec.ofChange rollLivesWrong)

/-- 'sibyllaw15.RollMany': WHATEVER THE INPUT: true; the input reads as it did. -/
def rollManySpec : ChangeSpec := { name := "rollMany", fn := fun _ => fun
  | [d1, d2] => { results := [.lit (.bool true)], args := [d1, d2] }
  | _ => none }
def rollManyRow : OpenClaim := { program := "ytlndkeofhcneaaa", sum := "3564e6c0352375077a044f7a9231e7a5efa83ba2f8e57af3fa338001b4ab4b88", func := "sibyl/sibyllaw15.RollMany", spec := "rollMany", unfollowed := true, recurses := true, apart := false }
def RollManySaid : Prop := rollManyRow.holds Try.pinned (OpenSpec.ofChange rollManySpec)

/-- ITS FALSE NEIGHBOUR: 'it returns false'. Refute it at one input. -/
def rollManyWrong : ChangeSpec := { name := "rollMany", fn := fun _ => fun
  | [d1, d2] => { results := [.lit (.bool false)], args := [d1, d2] }
  | _ => none }
def RollManyWrongFalsely : Prop := rollManyRow.holds Try.pinned (OpenSpec.ofChange rollManyWrong)

/- THE SECOND FORM. 'bulk': how many values and letters a reading holds, each counted each time it is reached (what is shared counts as often as it is met; a slice's spare places count too). A statement '..UptoSaid' is the law's where the arguments, and the package variables that the reading takes, are together of bulk at most 1048576: NARROWER than '..Said'. Prove '..Said' where nothing that the law and all that it calls make is longer than what came in: it says more and counts as full. Else prove '..UptoSaid'. A law counts once. -/
mutual
def uptoBulk {H : Type} : DataW H → Nat
  | .lit (.string bytes) => bytes.length + 1
  | .lit _ => 1
  | .nil => 1
  | .ptr d => uptoBulk d + 1
  | .slice elems spare => uptoBulkAll elems + uptoBulkAll spare + 1
  | .agg parts => uptoBulkAll parts + 1
  | .iface _ d => uptoBulk d + 1
  | .map entries => uptoBulkEntries entries + 1
  | .held _ => 1
def uptoBulkAll {H : Type} : List (DataW H) → Nat
  | [] => 0
  | d :: r => uptoBulk d + uptoBulkAll r
def uptoBulkEntries {H : Type} : List (Lit × DataW H) → Nat
  | [] => 0
  | x :: r => uptoBulkEntry x + uptoBulkEntries r
def uptoBulkEntry {H : Type} : Lit × DataW H → Nat
  | (.string bytes, d) => bytes.length + uptoBulk d + 1
  | (_, d) => uptoBulk d + 1
 end
def uptoSmall : (H : Type) → List (DataW H) → Bool := fun _ ds => decide (uptoBulkAll ds ≤ 1048576)
def OpenSpec.upto (s : _root_.Go.ChangeSpec) : _root_.Go.OpenSpec := { _root_.Go.OpenSpec.ofChange s with cond := some uptoSmall }

/-- 'sibyllaw15.RollPlays', WHERE WHAT IT READS IS OF BULK AT MOST 1048576: true; the input reads as it did. -/
def rollPlaysUptoRow : OpenClaim := { program := "ytlndkeofhcneaaa", sum := "3564e6c0352375077a044f7a9231e7a5efa83ba2f8e57af3fa338001b4ab4b88", func := "sibyl/sibyllaw15.RollPlays", spec := "rollPlays", unfollowed := true, recurses := true, apart := false, narrowed := true }
def RollPlaysUptoSaid : Prop := rollPlaysUptoRow.holds Try.pinned (OpenSpec.upto rollPlaysSpec)

/-- 'sibyllaw15.RollStays', WHERE WHAT IT READS IS OF BULK AT MOST 1048576: true; the input reads as it did. -/
def rollStaysUptoRow : OpenClaim := { program := "ytlndkeofhcneaaa", sum := "3564e6c0352375077a044f7a9231e7a5efa83ba2f8e57af3fa338001b4ab4b88", func := "sibyl/sibyllaw15.RollStays", spec := "rollStays", unfollowed := true, recurses := true, apart := false, narrowed := true }
def RollStaysUptoSaid : Prop := rollStaysUptoRow.holds Try.pinned (OpenSpec.upto rollStaysSpec)

/-- 'sibyllaw15.RollLives', WHERE WHAT IT READS IS OF BULK AT MOST 1048576: true; the input reads as it did. -/
def rollLivesUptoRow : OpenClaim := { program := "ytlndkeofhcneaaa", sum := "3564e6c0352375077a044f7a9231e7a5efa83ba2f8e57af3fa338001b4ab4b88", func := "sibyl/sibyllaw15.RollLives", spec := "rollLives", unfollowed := true, recurses := true, apart := false, narrowed := true }
def RollLivesUptoSaid : Prop := rollLivesUptoRow.holds Try.pinned (OpenSpec.upto rollLivesSpec)

/-- 'sibyllaw15.RollMany', WHERE WHAT IT READS IS OF BULK AT MOST 1048576: true; the input reads as it did. -/
def rollManyUptoRow : OpenClaim := { program := "ytlndkeofhcneaaa", sum := "3564e6c0352375077a044f7a9231e7a5efa83ba2f8e57af3fa338001b4ab4b88", func := "sibyl/sibyllaw15.RollMany", spec := "rollMany", unfollowed := true, recurses := true, apart := false, narrowed := true }
def RollManyUptoSaid : Prop := rollManyUptoRow.holds Try.pinned (OpenSpec.upto rollManySpec)

end Rows
end Go.Proofs.Ytlndkeofhcneaaa
