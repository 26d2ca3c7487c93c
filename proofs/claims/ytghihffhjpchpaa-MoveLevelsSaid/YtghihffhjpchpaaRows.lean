/-
  No cell of these rows narrows 'for every input' (looked for: loops, veiled, ifaces, maps, wideKeys, modest, calm, conditions, laid).
  DERIVED. THE GIVEN ROWS OF THIS SEAT. 4 by the template 'for every input the law returns true; each argument reads behind the call as it read before'; 0 by the template 'total and deterministic' (their statements: YtghihffhjpchpaaTotals.lean).
  GIVEN WITH THE SEED: the statements are not yours to turn. If you find one false, say at which input.
  Laid BY PROGRAM, IN A SANDBOX (cutbox-rows.mjs): the forced cells as the released guide's own fill.sh prints them over the translation f8cf2758f5c1c069… (all of the seat's roots in one cut). By AI agents, Wed Nov 11 2026. No macro, syntax, notation, axiom, sorry.
-/
import Derived.Test.YtghihffhjpchpaaChecked
import GoSem.Claim
import GoSem.ClaimJoined
import GoSem.ClaimMapViews
import Derived.JoinedTies
import Derived.KernelRfl
namespace Go.Proofs.Ytghihffhjpchpaa
/- THE CELL 'sum', in the pinned program and in every row, IS THE sha256 OF THE DUMP (.gsa) THAT YtghihffhjpchpaaProg.lean LOADS. Nothing in Lean hashes anything: it is a label: what it is worth is what the hold of that sum in a sandbox is worth. -/
noncomputable def Try.pinned : Pinned := { name := "ytghihffhjpchpaa", sum := "f8cf2758f5c1c069602d872f9f13339bf6bf9cda628ee03014215e9445d56b9c", checked := Try.checked }
namespace Rows
def none {H : Type} : Left H := { results := [], args := [] }

/-- 'marlstonelaw17.MoveFlushes': WHATEVER THE INPUT: true; the input reads as it did. -/
def moveFlushesSpec : ChangeSpec := { name := "moveFlushes", fn := fun _ => fun
  | [d1, d2, d3] => { results := [.lit (.bool true)], args := [d1, d2, d3] }
  | _ => none }
def moveFlushesRow : OpenClaim := { program := "ytghihffhjpchpaa", sum := "f8cf2758f5c1c069602d872f9f13339bf6bf9cda628ee03014215e9445d56b9c", func := "marlstone/marlstonelaw17.MoveFlushes", spec := "moveFlushes", inPlace := ["slices.overlaps[marlstone/api.Table]"], unfollowed := true, recurses := true, apart := false }
def MoveFlushesSaid : Prop := moveFlushesRow.holds Try.pinned (OpenSpec.ofChange moveFlushesSpec)

/-- ITS FALSE NEIGHBOUR: 'it returns false'. Refute it at one input. -/
def moveFlushesWrong : ChangeSpec := { name := "moveFlushes", fn := fun _ => fun
  | [d1, d2, d3] => { results := [.lit (.bool false)], args := [d1, d2, d3] }
  | _ => none }
def MoveFlushesWrongFalsely : Prop := moveFlushesRow.holds Try.pinned (OpenSpec.ofChange moveFlushesWrong)

/-- 'marlstonelaw17.MovePlaces': WHATEVER THE INPUT: true; the input reads as it did. -/
def movePlacesSpec : ChangeSpec := { name := "movePlaces", fn := fun _ => fun
  | [d1, d2, d3] => { results := [.lit (.bool true)], args := [d1, d2, d3] }
  | _ => none }
def movePlacesRow : OpenClaim := { program := "ytghihffhjpchpaa", sum := "f8cf2758f5c1c069602d872f9f13339bf6bf9cda628ee03014215e9445d56b9c", func := "marlstone/marlstonelaw17.MovePlaces", spec := "movePlaces", inPlace := ["slices.overlaps[marlstone/api.Table]"], unfollowed := true, recurses := true, apart := false }
def MovePlacesSaid : Prop := movePlacesRow.holds Try.pinned (OpenSpec.ofChange movePlacesSpec)

/-- ITS FALSE NEIGHBOUR: 'it returns false'. Refute it at one input. -/
def movePlacesWrong : ChangeSpec := { name := "movePlaces", fn := fun _ => fun
  | [d1, d2, d3] => { results := [.lit (.bool false)], args := [d1, d2, d3] }
  | _ => none }
def MovePlacesWrongFalsely : Prop := movePlacesRow.holds Try.pinned (OpenSpec.ofChange movePlacesWrong)

/-- 'marlstonelaw17.MoveNames': WHATEVER THE INPUT: true; the input reads as it did. -/
def moveNamesSpec : ChangeSpec := { name := "moveNames", fn := fun _ => fun
  | [d1, d2, d3, d4] => { results := [.lit (.bool true)], args := [d1, d2, d3, d4] }
  | _ => none }
def moveNamesRow : OpenClaim := { program := "ytghihffhjpchpaa", sum := "f8cf2758f5c1c069602d872f9f13339bf6bf9cda628ee03014215e9445d56b9c", func := "marlstone/marlstonelaw17.MoveNames", spec := "moveNames", inPlace := ["slices.overlaps[marlstone/api.Table]"], unfollowed := true, recurses := true, apart := false }
def MoveNamesSaid : Prop := moveNamesRow.holds Try.pinned (OpenSpec.ofChange moveNamesSpec)

/-- ITS FALSE NEIGHBOUR: 'it returns false'. Refute it at one input. -/
def moveNamesWrong : ChangeSpec := { name := "moveNames", fn := fun _ => fun
  | [d1, d2, d3, d4] => { results := [.lit (.bool false)], args := [d1, d2, d3, d4] }
  | _ => none }
def MoveNamesWrongFalsely : Prop := moveNamesRow.holds Try.pinned (OpenSpec.ofChange moveNamesWrong)

/-- 'marlstonelaw17.MoveLevels': WHATEVER THE INPUT: true; the input reads as it did. -/
def moveLevelsSpec : ChangeSpec := { name := "moveLevels", fn := fun _ => fun
  | [d1, d2, d3] => { results := [.lit (.bool true)], args := [d1, d2, d3] }
  | _ => none }
def moveLevelsRow : OpenClaim := { program := "ytghihffhjpchpaa", sum := "f8cf2758f5c1c069602d872f9f13339bf6bf9cda628ee03014215e9445d56b9c", func := "marlstone/marlstonelaw17.MoveLevels", spec := "moveLevels", inPlace := ["slices.overlaps[marlstone/api.Table]"], unfollowed := true, recurses := true, apart := false }
def MoveLevelsSaid : Prop := moveLevelsRow.holds Try.pinned (OpenSpec.ofChange moveLevelsSpec)

/-- ITS FALSE NEIGHBOUR: 'it returns false'. Refute it at one input. -/
def moveLevelsWrong : ChangeSpec := { name := "moveLevels", fn := fun _ => fun
  | [d1, d2, d3] => { results := [.lit (.bool false)], args := [d1, d2, d3] }
  | _ => none }
def MoveLevelsWrongFalsely : Prop := moveLevelsRow.holds Try.pinned (OpenSpec.ofChange moveLevelsWrong)

/- THE SECOND FORM. 'bulk': how many values and letters a reading holds, each counted each time it is reached (what is shared counts as often as it is met; a slice's spare places count too). A statement '..UptoSaid' is the law's where the arguments, and the package variables that the reading takes, are together of bulk at most 1048576: NARROWER than '..Said'. Prove '..Said' where nothing that the law and all that it calls make is longer than what came in: it says more and counts as full. Else prove '..UptoSaid'. A law counts once. -/
mutual
def uptoBulk {H : Type} : DataW H → Nat
  | .lit (.string bytes) => bytes.length + 1
  | .lit _ => 1
  | .nil => 1
  | .ptr d => uptoBulk d + 1
  | .slice elems spare => uptoBulkAll elems + uptoBulkAll spare + 1
  | .agg parts => uptoBulkAll parts + 1
  | .iface _ d => uptoBulk d + 1
  | .map entries => uptoBulkEntries entries + 1
  | .held _ => 1
def uptoBulkAll {H : Type} : List (DataW H) → Nat
  | [] => 0
  | d :: r => uptoBulk d + uptoBulkAll r
def uptoBulkEntries {H : Type} : List (Lit × DataW H) → Nat
  | [] => 0
  | x :: r => uptoBulkEntry x + uptoBulkEntries r
def uptoBulkEntry {H : Type} : Lit × DataW H → Nat
  | (.string bytes, d) => bytes.length + uptoBulk d + 1
  | (_, d) => uptoBulk d + 1
 end
def uptoSmall : (H : Type) → List (DataW H) → Bool := fun _ ds => decide (uptoBulkAll ds ≤ 1048576)
def OpenSpec.upto (s : _root_.Go.ChangeSpec) : _root_.Go.OpenSpec := { _root_.Go.OpenSpec.ofChange s with cond := some uptoSmall }

/-- 'marlstonelaw17.MoveFlushes', WHERE WHAT IT READS IS OF BULK AT MOST 1048576: true; the input reads as it did. -/
def moveFlushesUptoRow : OpenClaim := { program := "ytghihffhjpchpaa", sum := "f8cf2758f5c1c069602d872f9f13339bf6bf9cda628ee03014215e9445d56b9c", func := "marlstone/marlstonelaw17.MoveFlushes", spec := "moveFlushes", inPlace := ["slices.overlaps[marlstone/api.Table]"], unfollowed := true, recurses := true, apart := false, narrowed := true }
def MoveFlushesUptoSaid : Prop := moveFlushesUptoRow.holds Try.pinned (OpenSpec.upto moveFlushesSpec)

/-- 'marlstonelaw17.MovePlaces', WHERE WHAT IT READS IS OF BULK AT MOST 1048576: true; the input reads as it did. -/
def movePlacesUptoRow : OpenClaim := { program := "ytghihffhjpchpaa", sum := "f8cf2758f5c1c069602d872f9f13339bf6bf9cda628ee03014215e9445d56b9c", func := "marlstone/marlstonelaw17.MovePlaces", spec := "movePlaces", inPlace := ["slices.overlaps[marlstone/api.Table]"], unfollowed := true, recurses := true, apart := false, narrowed := true }
def MovePlacesUptoSaid : Prop := movePlacesUptoRow.holds Try.pinned (OpenSpec.upto movePlacesSpec)

/-- 'marlstonelaw17.MoveNames', WHERE WHAT IT READS IS OF BULK AT MOST 1048576: true; the input reads as it did. -/
def moveNamesUptoRow : OpenClaim := { program := "ytghihffhjpchpaa", sum := "f8cf2758f5c1c069602d872f9f13339bf6bf9cda628ee03014215e9445d56b9c", func := "marlstone/marlstonelaw17.MoveNames", spec := "moveNames", inPlace := ["slices.overlaps[marlstone/api.Table]"], unfollowed := true, recurses := true, apart := false, narrowed := true }
def MoveNamesUptoSaid : Prop := moveNamesUptoRow.holds Try.pinned (OpenSpec.upto moveNamesSpec)

/-- 'marlstonelaw17.MoveLevels', WHERE WHAT IT READS IS OF BULK AT MOST 1048576: true; the input reads as it did. -/
def moveLevelsUptoRow : OpenClaim := { program := "ytghihffhjpchpaa", sum := "f8cf2758f5c1c069602d872f9f13339bf6bf9cda628ee03014215e9445d56b9c", func := "marlstone/marlstonelaw17.MoveLevels", spec := "moveLevels", inPlace := ["slices.overlaps[marlstone/api.Table]"], unfollowed := true, recurses := true, apart := false, narrowed := true }
def MoveLevelsUptoSaid : Prop := moveLevelsUptoRow.holds Try.pinned (OpenSpec.upto moveLevelsSpec)

end Rows
end Go.Proofs.Ytghihffhjpchpaa
