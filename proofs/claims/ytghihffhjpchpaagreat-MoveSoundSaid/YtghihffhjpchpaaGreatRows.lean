/-
  No cell of these rows narrows 'for every input' (looked for: loops, veiled, ifaces, maps, wideKeys, modest, calm, conditions, laid).
  DERIVED. THE GIVEN ROWS OF THIS SEAT. 4 by the template 'for every input the law returns true; each argument reads behind the call as it read before'; 0 by the template 'total and deterministic' (their statements: YtghihffhjpchpaaGreatTotals.lean).
  GIVEN WITH THE SEED: the statements are not yours to turn. If you find one false, say at which input.
  Laid BY PROGRAM, IN A SANDBOX (cutbox-rows.mjs): the forced cells as the released guide's own fill.sh prints them over the translation 61ff441991cbefdd… (all of the seat's roots in one cut). By AI agents, Wed Nov 11 2026. No macro, syntax, notation, axiom, sorry.
-/
import Derived.Test.YtghihffhjpchpaaGreatChecked
import GoSem.Claim
import GoSem.ClaimJoined
import GoSem.ClaimMapViews
import Derived.JoinedTies
import Derived.KernelRfl
namespace Go.Proofs.YtghihffhjpchpaaGreat
/- THE CELL 'sum', in the pinned program and in every row, IS THE sha256 OF THE DUMP (.gsa) THAT YtghihffhjpchpaaGreatProg.lean LOADS. Nothing in Lean hashes anything: it is a label: what it is worth is what the hold of that sum in a sandbox is worth. -/
noncomputable def Tryz.pinned : Pinned := { name := "ytghihffhjpchpaagreat", sum := "61ff441991cbefdd308957b6586747f827aa8c61c6ea46ee3f635ef7f7a342bc", checked := Tryz.checked }
namespace Rows
def none {H : Type} : Left H := { results := [], args := [] }

/-- 'marlstonelaw17.MoveCompacts': WHATEVER THE INPUT: true; the input reads as it did. -/
def moveCompactsSpec : ChangeSpec := { name := "moveCompacts", fn := fun _ => fun
  | [d1, d2, d3, d4, d5, d6, d7] => { results := [.lit (.bool true)], args := [d1, d2, d3, d4, d5, d6, d7] }
  | _ => none }
def moveCompactsRow : OpenClaim := { program := "ytghihffhjpchpaagreat", sum := "61ff441991cbefdd308957b6586747f827aa8c61c6ea46ee3f635ef7f7a342bc", func := "marlstone/marlstonelaw17.MoveCompacts", spec := "moveCompacts", inPlace := ["slices.overlaps[marlstone/api.Table]"], unfollowed := true, recurses := true, apart := false }
def MoveCompactsSaid : Prop := moveCompactsRow.holds Tryz.pinned (OpenSpec.ofChange moveCompactsSpec)

/-- ITS FALSE NEIGHBOUR: 'it returns false'. Refute it at one input. -/
def moveCompactsWrong : ChangeSpec := { name := "moveCompacts", fn := fun _ => fun
  | [d1, d2, d3, d4, d5, d6, d7] => { results := [.lit (.bool false)], args := [d1, d2, d3, d4, d5, d6, d7] }
  | _ => none }
def MoveCompactsWrongFalsely : Prop := moveCompactsRow.holds Tryz.pinned (OpenSpec.ofChange moveCompactsWrong)

/-- 'marlstonelaw17.MoveOver': WHATEVER THE INPUT: true; the input reads as it did. -/
def moveOverSpec : ChangeSpec := { name := "moveOver", fn := fun _ => fun
  | [d1, d2, d3, d4] => { results := [.lit (.bool true)], args := [d1, d2, d3, d4] }
  | _ => none }
def moveOverRow : OpenClaim := { program := "ytghihffhjpchpaagreat", sum := "61ff441991cbefdd308957b6586747f827aa8c61c6ea46ee3f635ef7f7a342bc", func := "marlstone/marlstonelaw17.MoveOver", spec := "moveOver", inPlace := ["slices.overlaps[marlstone/api.Table]", "internal/bytealg.abigen_runtime_cmpstring"], unfollowed := true, recurses := true, apart := false }
def MoveOverSaid : Prop := moveOverRow.holds Tryz.pinned (OpenSpec.ofChange moveOverSpec)

/-- ITS FALSE NEIGHBOUR: 'it returns false'. Refute it at one input. -/
def moveOverWrong : ChangeSpec := { name := "moveOver", fn := fun _ => fun
  | [d1, d2, d3, d4] => { results := [.lit (.bool false)], args := [d1, d2, d3, d4] }
  | _ => none }
def MoveOverWrongFalsely : Prop := moveOverRow.holds Tryz.pinned (OpenSpec.ofChange moveOverWrong)

/-- 'marlstonelaw17.MoveKeeps': WHATEVER THE INPUT: true; the input reads as it did. -/
def moveKeepsSpec : ChangeSpec := { name := "moveKeeps", fn := fun _ => fun
  | [d1, d2, d3] => { results := [.lit (.bool true)], args := [d1, d2, d3] }
  | _ => none }
def moveKeepsRow : OpenClaim := { program := "ytghihffhjpchpaagreat", sum := "61ff441991cbefdd308957b6586747f827aa8c61c6ea46ee3f635ef7f7a342bc", func := "marlstone/marlstonelaw17.MoveKeeps", spec := "moveKeeps", inPlace := ["slices.overlaps[marlstone/api.Table]", "internal/bytealg.abigen_runtime_cmpstring"], unfollowed := true, recurses := true, apart := false }
def MoveKeepsSaid : Prop := moveKeepsRow.holds Tryz.pinned (OpenSpec.ofChange moveKeepsSpec)

/-- ITS FALSE NEIGHBOUR: 'it returns false'. Refute it at one input. -/
def moveKeepsWrong : ChangeSpec := { name := "moveKeeps", fn := fun _ => fun
  | [d1, d2, d3] => { results := [.lit (.bool false)], args := [d1, d2, d3] }
  | _ => none }
def MoveKeepsWrongFalsely : Prop := moveKeepsRow.holds Tryz.pinned (OpenSpec.ofChange moveKeepsWrong)

/-- 'marlstonelaw17.MoveSound': WHATEVER THE INPUT: true; the input reads as it did. -/
def moveSoundSpec : ChangeSpec := { name := "moveSound", fn := fun _ => fun
  | [d1, d2, d3, d4, d5, d6, d7] => { results := [.lit (.bool true)], args := [d1, d2, d3, d4, d5, d6, d7] }
  | _ => none }
def moveSoundRow : OpenClaim := { program := "ytghihffhjpchpaagreat", sum := "61ff441991cbefdd308957b6586747f827aa8c61c6ea46ee3f635ef7f7a342bc", func := "marlstone/marlstonelaw17.MoveSound", spec := "moveSound", inPlace := ["slices.overlaps[marlstone/api.Table]"], unfollowed := true, recurses := true, apart := false }
def MoveSoundSaid : Prop := moveSoundRow.holds Tryz.pinned (OpenSpec.ofChange moveSoundSpec)

/-- ITS FALSE NEIGHBOUR: 'it returns false'. Refute it at one input. -/
def moveSoundWrong : ChangeSpec := { name := "moveSound", fn := fun _ => fun
  | [d1, d2, d3, d4, d5, d6, d7] => { results := [.lit (.bool false)], args := [d1, d2, d3, d4, d5, d6, d7] }
  | _ => none }
def MoveSoundWrongFalsely : Prop := moveSoundRow.holds Tryz.pinned (OpenSpec.ofChange moveSoundWrong)

/- THE SECOND FORM. 'bulk': how many values and letters a reading holds, each counted each time it is reached (what is shared counts as often as it is met; a slice's spare places count too). A statement '..UptoSaid' is the law's where the arguments, and the package variables that the reading takes, are together of bulk at most 1048576: NARROWER than '..Said'. Prove '..Said' where nothing that the law and all that it calls make is longer than what came in: it says more and counts as full. Else prove '..UptoSaid'. A law counts once. -/
mutual
def uptoBulk {H : Type} : DataW H → Nat
  | .lit (.string bytes) => bytes.length + 1
  | .lit _ => 1
  | .nil => 1
  | .ptr d => uptoBulk d + 1
  | .slice elems spare => uptoBulkAll elems + uptoBulkAll spare + 1
  | .agg parts => uptoBulkAll parts + 1
  | .iface _ d => uptoBulk d + 1
  | .map entries => uptoBulkEntries entries + 1
  | .held _ => 1
def uptoBulkAll {H : Type} : List (DataW H) → Nat
  | [] => 0
  | d :: r => uptoBulk d + uptoBulkAll r
def uptoBulkEntries {H : Type} : List (Lit × DataW H) → Nat
  | [] => 0
  | x :: r => uptoBulkEntry x + uptoBulkEntries r
def uptoBulkEntry {H : Type} : Lit × DataW H → Nat
  | (.string bytes, d) => bytes.length + uptoBulk d + 1
  | (_, d) => uptoBulk d + 1
 end
def uptoSmall : (H : Type) → List (DataW H) → Bool := fun _ ds => decide (uptoBulkAll ds ≤ 1048576)
def OpenSpec.upto (s : _root_.Go.ChangeSpec) : _root_.Go.OpenSpec := { _root_.Go.OpenSpec.ofChange s with cond := some uptoSmall }

/-- 'marlstonelaw17.MoveCompacts', WHERE WHAT IT READS IS OF BULK AT MOST 1048576: true; the input reads as it did. -/
def moveCompactsUptoRow : OpenClaim := { program := "ytghihffhjpchpaagreat", sum := "61ff441991cbefdd308957b6586747f827aa8c61c6ea46ee3f635ef7f7a342bc", func := "marlstone/marlstonelaw17.MoveCompacts", spec := "moveCompacts", inPlace := ["slices.overlaps[marlstone/api.Table]"], unfollowed := true, recurses := true, apart := false, narrowed := true }
def MoveCompactsUptoSaid : Prop := moveCompactsUptoRow.holds Tryz.pinned (OpenSpec.upto moveCompactsSpec)

/-- 'marlstonelaw17.MoveOver', WHERE WHAT IT READS IS OF BULK AT MOST 1048576: true; the input reads as it did. -/
def moveOverUptoRow : OpenClaim := { program := "ytghihffhjpchpaagreat", sum := "61ff441991cbefdd308957b6586747f827aa8c61c6ea46ee3f635ef7f7a342bc", func := "marlstone/marlstonelaw17.MoveOver", spec := "moveOver", inPlace := ["slices.overlaps[marlstone/api.Table]", "internal/bytealg.abigen_runtime_cmpstring"], unfollowed := true, recurses := true, apart := false, narrowed := true }
def MoveOverUptoSaid : Prop := moveOverUptoRow.holds Tryz.pinned (OpenSpec.upto moveOverSpec)

/-- 'marlstonelaw17.MoveKeeps', WHERE WHAT IT READS IS OF BULK AT MOST 1048576: true; the input reads as it did. -/
def moveKeepsUptoRow : OpenClaim := { program := "ytghihffhjpchpaagreat", sum := "61ff441991cbefdd308957b6586747f827aa8c61c6ea46ee3f635ef7f7a342bc", func := "marlstone/marlstonelaw17.MoveKeeps", spec := "moveKeeps", inPlace := ["slices.overlaps[marlstone/api.Table]", "internal/bytealg.abigen_runtime_cmpstring"], unfollowed := true, recurses := true, apart := false, narrowed := true }
def MoveKeepsUptoSaid : Prop := moveKeepsUptoRow.holds Tryz.pinned (OpenSpec.upto moveKeepsSpec)

/-- 'marlstonelaw17.MoveSound', WHERE WHAT IT READS IS OF BULK AT MOST 1048576: true; the input reads as it did. -/
def moveSoundUptoRow : OpenClaim := { program := "ytghihffhjpchpaagreat", sum := "61ff441991cbefdd308957b6586747f827aa8c61c6ea46ee3f635ef7f7a342bc", func := "marlstone/marlstonelaw17.MoveSound", spec := "moveSound", inPlace := ["slices.overlaps[marlstone/api.Table]"], unfollowed := true, recurses := true, apart := false, narrowed := true }
def MoveSoundUptoSaid : Prop := moveSoundUptoRow.holds Tryz.pinned (OpenSpec.upto moveSoundSpec)

end Rows
end Go.Proofs.YtghihffhjpchpaaGreat
