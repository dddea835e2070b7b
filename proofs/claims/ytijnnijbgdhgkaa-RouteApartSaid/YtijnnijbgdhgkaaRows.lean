/-
  No cell of these rows narrows 'for every input' (looked for: loops, veiled, ifaces, maps, wideKeys, modest, calm, conditions, laid).
  DERIVED. THE GIVEN ROWS OF THIS SEAT. 4 by the template 'for every input the law returns true; each argument reads behind the call as it read before'; 0 by the template 'total and deterministic' (their statements: YtijnnijbgdhgkaaTotals.lean).
  GIVEN WITH THE SEED: the statements are not yours to turn. If you find one false, say at which input.
  Laid BY PROGRAM, IN A SANDBOX (cutbox-rows.mjs): the forced cells as the released guide's own fill.sh prints them over the translation 896d54084b53efc3… (all of the seat's roots in one cut). By AI agents, Wed Nov 11 2026. No macro, syntax, notation, axiom, sorry.
-/
import Derived.Test.YtijnnijbgdhgkaaChecked
import GoSem.Claim
import GoSem.ClaimJoined
import GoSem.ClaimMapViews
import Derived.JoinedTies
import Derived.KernelRfl
namespace Go.Proofs.Ytijnnijbgdhgkaa
/- THE CELL 'sum', in the pinned program and in every row, IS THE sha256 OF THE DUMP (.gsa) THAT YtijnnijbgdhgkaaProg.lean LOADS. Nothing in Lean hashes anything: it is a label: what it is worth is what the hold of that sum in a sandbox is worth. -/
noncomputable def Try.pinned : Pinned := { name := "ytijnnijbgdhgkaa", sum := "896d54084b53efc32bbba1193ab914ba75322277385b22f55987251d5931be10", checked := Try.checked }
namespace Rows
def none {H : Type} : Left H := { results := [], args := [] }

/-- 'sibyllaw16.RouteApart': WHATEVER THE INPUT: true; the input reads as it did. -/
def routeApartSpec : ChangeSpec := { name := "routeApart", fn := fun _ => fun
  | [d1, d2] => { results := [.lit (.bool true)], args := [d1, d2] }
  | _ => none }
def routeApartRow : OpenClaim := { program := "ytijnnijbgdhgkaa", sum := "896d54084b53efc32bbba1193ab914ba75322277385b22f55987251d5931be10", func := "sibyl/sibyllaw16.RouteApart", spec := "routeApart", unfollowed := true, recurses := true, apart := false }
def RouteApartSaid : Prop := routeApartRow.holds Try.pinned (OpenSpec.ofChange routeApartSpec)

/-- ITS FALSE NEIGHBOUR: 'it returns false'. Refute it at one input. -/
def routeApartWrong : ChangeSpec := { name := "routeApart", fn := fun _ => fun
  | [d1, d2] => { results := [.lit (.bool false)], args := [d1, d2] }
  | _ => none }
def RouteApartWrongFalsely : Prop := routeApartRow.holds Try.pinned (OpenSpec.ofChange routeApartWrong)

/-- 'sibyllaw16.RouteTells': WHATEVER THE INPUT: true; the input reads as it did. -/
def routeTellsSpec : ChangeSpec := { name := "routeTells", fn := fun _ => fun
  | [d1, d2] => { results := [.lit (.bool true)], args := [d1, d2] }
  | _ => none }
def routeTellsRow : OpenClaim := { program := "ytijnnijbgdhgkaa", sum := "896d54084b53efc32bbba1193ab914ba75322277385b22f55987251d5931be10", func := "sibyl/sibyllaw16.RouteTells", spec := "routeTells", unfollowed := true, recurses := true, apart := false }
def RouteTellsSaid : Prop := routeTellsRow.holds Try.pinned (OpenSpec.ofChange routeTellsSpec)

/-- ITS FALSE NEIGHBOUR: 'it returns false'. Refute it at one input. -/
def routeTellsWrong : ChangeSpec := { name := "routeTells", fn := fun _ => fun
  | [d1, d2] => { results := [.lit (.bool false)], args := [d1, d2] }
  | _ => none }
def RouteTellsWrongFalsely : Prop := routeTellsRow.holds Try.pinned (OpenSpec.ofChange routeTellsWrong)

/-- 'sibyllaw16.RouteWithin': WHATEVER THE INPUT: true; the input reads as it did. -/
def routeWithinSpec : ChangeSpec := { name := "routeWithin", fn := fun _ => fun
  | [d1, d2] => { results := [.lit (.bool true)], args := [d1, d2] }
  | _ => none }
def routeWithinRow : OpenClaim := { program := "ytijnnijbgdhgkaa", sum := "896d54084b53efc32bbba1193ab914ba75322277385b22f55987251d5931be10", func := "sibyl/sibyllaw16.RouteWithin", spec := "routeWithin", unfollowed := true, recurses := true, apart := false }
def RouteWithinSaid : Prop := routeWithinRow.holds Try.pinned (OpenSpec.ofChange routeWithinSpec)

/-- ITS FALSE NEIGHBOUR: 'it returns false'. Refute it at one input. -/
def routeWithinWrong : ChangeSpec := { name := "routeWithin", fn := fun _ => fun
  | [d1, d2] => { results := [.lit (.bool false)], args := [d1, d2] }
  | _ => none }
def RouteWithinWrongFalsely : Prop := routeWithinRow.holds Try.pinned (OpenSpec.ofChange routeWithinWrong)

/-- 'sibyllaw16.RouteNone': WHATEVER THE INPUT: true; the input reads as it did. -/
def routeNoneSpec : ChangeSpec := { name := "routeNone", fn := fun _ => fun
  | [d1, d2] => { results := [.lit (.bool true)], args := [d1, d2] }
  | _ => none }
def routeNoneRow : OpenClaim := { program := "ytijnnijbgdhgkaa", sum := "896d54084b53efc32bbba1193ab914ba75322277385b22f55987251d5931be10", func := "sibyl/sibyllaw16.RouteNone", spec := "routeNone", unfollowed := true, recurses := true, apart := false }
def RouteNoneSaid : Prop := routeNoneRow.holds Try.pinned (OpenSpec.ofChange routeNoneSpec)

/-- ITS FALSE NEIGHBOUR: 'it returns false'. Refute it at one input. -/
def routeNoneWrong : ChangeSpec := { name := "routeNone", fn := fun _ => fun
  | [d1, d2] => { results := [.lit (.bool false)], args := [d1, d2] }
  | _ => none }
def RouteNoneWrongFalsely : Prop := routeNoneRow.holds Try.pinned (OpenSpec.ofChange routeNoneWrong)

/- THE SECOND FORM. 'bulk': how many values and letters a reading holds, each counted each time it is reached (what is shared counts as often as it is met; a slice's spare places count too). A statement '..UptoSaid' is the law's where the arguments, and the package variables that the reading takes, are together of bulk at most 1048576: NARROWER than '..Said'. Prove '..Said' where nothing that the law and all that it calls make is longer than what came in: it says more and counts as full. Else prove '..UptoSaid'. A law counts once. -/
mutual
def uptoBulk {H : Type} : DataW H → Nat
  | .lit (.string bytes) => bytes.length + 1
  | .lit _ => 1
  | .nil => 1
  | .ptr d => uptoBulk d + 1
  | .slice elems spare => uptoBulkAll elems + uptoBulkAll spare + 1
  | .agg parts => uptoBulkAll parts + 1
  | .iface _ d => uptoBulk d + 1
  | .map entries => uptoBulkEntries entries + 1
  | .held _ => 1
def uptoBulkAll {H : Type} : List (DataW H) → Nat
  | [] => 0
  | d :: r => uptoBulk d + uptoBulkAll r
def uptoBulkEntries {H : Type} : List (Lit × DataW H) → Nat
  | [] => 0
  | x :: r => uptoBulkEntry x + uptoBulkEntries r
def uptoBulkEntry {H : Type} : Lit × DataW H → Nat
  | (.string bytes, d) => bytes.length + uptoBulk d + 1
  | (_, d) => uptoBulk d + 1
 end
def uptoSmall : (H : Type) → List (DataW H) → Bool := fun _ ds => decide (uptoBulkAll ds ≤ 1048576)
def OpenSpec.upto (s : _root_.Go.ChangeSpec) : _root_.Go.OpenSpec := { _root_.Go.OpenSpec.ofChange s with cond := some uptoSmall }

/-- 'sibyllaw16.RouteApart', WHERE WHAT IT READS IS OF BULK AT MOST 1048576: true; the input reads as it did. -/
def routeApartUptoRow : OpenClaim := { program := "ytijnnijbgdhgkaa", sum := "896d54084b53efc32bbba1193ab914ba75322277385b22f55987251d5931be10", func := "sibyl/sibyllaw16.RouteApart", spec := "routeApart", unfollowed := true, recurses := true, apart := false, narrowed := true }
def RouteApartUptoSaid : Prop := routeApartUptoRow.holds Try.pinned (OpenSpec.upto routeApartSpec)

/-- 'sibyllaw16.RouteTells', WHERE WHAT IT READS IS OF BULK AT MOST 1048576: true; the input reads as it did. -/
def routeTellsUptoRow : OpenClaim := { program := "ytijnnijbgdhgkaa", sum := "896d54084b53efc32bbba1193ab914ba75322277385b22f55987251d5931be10", func := "sibyl/sibyllaw16.RouteTells", spec := "routeTells", unfollowed := true, recurses := true, apart := false, narrowed := true }
def RouteTellsUptoSaid : Prop := routeTellsUptoRow.holds Try.pinned (OpenSpec.upto routeTellsSpec)

/-- 'sibyllaw16.RouteWithin', WHERE WHAT IT READS IS OF BULK AT MOST 1048576: true; the input reads as it did. -/
def routeWithinUptoRow : OpenClaim := { program := "ytijnnijbgdhgkaa", sum := "896d54084b53efc32bbba1193ab914ba75322277385b22f55987251d5931be10", func := "sibyl/sibyllaw16.RouteWithin", spec := "routeWithin", unfollowed := true, recurses := true, apart := false, narrowed := true }
def RouteWithinUptoSaid : Prop := routeWithinUptoRow.holds Try.pinned (OpenSpec.upto routeWithinSpec)

/-- 'sibyllaw16.RouteNone', WHERE WHAT IT READS IS OF BULK AT MOST 1048576: true; the input reads as it did. -/
def routeNoneUptoRow : OpenClaim := { program := "ytijnnijbgdhgkaa", sum := "896d54084b53efc32bbba1193ab914ba75322277385b22f55987251d5931be10", func := "sibyl/sibyllaw16.RouteNone", spec := "routeNone", unfollowed := true, recurses := true, apart := false, narrowed := true }
def RouteNoneUptoSaid : Prop := routeNoneUptoRow.holds Try.pinned (OpenSpec.upto routeNoneSpec)

end Rows
end Go.Proofs.Ytijnnijbgdhgkaa
