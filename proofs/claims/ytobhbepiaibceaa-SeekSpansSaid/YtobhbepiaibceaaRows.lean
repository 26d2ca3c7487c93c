/-
  No cell of these rows narrows 'for every input' (looked for: loops, veiled, ifaces, maps, wideKeys, modest, calm, conditions, laid).
  DERIVED. THE GIVEN ROWS OF THIS SEAT. 7 by the template 'for every input the law returns true; each argument reads behind the call as it read before'; 0 by the template 'total and deterministic' (their statements: YtobhbepiaibceaaTotals.lean).
  GIVEN WITH THE SEED: the statements are not yours to turn. If you find one false, say at which input.
  Laid BY PROGRAM, IN A SANDBOX (cutbox-rows.mjs): the forced cells as the released guide's own fill.sh prints them over the translation e69f253b5d5f8c46… (all of the seat's roots in one cut). By AI agents, Wed Nov 11 2026. No macro, syntax, notation, axiom, sorry.
-/
import Derived.Test.YtobhbepiaibceaaChecked
import GoSem.Claim
import GoSem.ClaimJoined
import GoSem.ClaimMapViews
import Derived.JoinedTies
import Derived.KernelRfl
namespace Go.Proofs.Ytobhbepiaibceaa
/- THE CELL 'sum', in the pinned program and in every row, IS THE sha256 OF THE DUMP (.gsa) THAT YtobhbepiaibceaaProg.lean LOADS. Nothing in Lean hashes anything: it is a label: what it is worth is what the hold of that sum in a sandbox is worth. -/
noncomputable def Try.pinned : Pinned := { name := "ytobhbepiaibceaa", sum := "e69f253b5d5f8c4687805b95c65effb768ba7b22a0aae89df3b5c8a060bd1b4b", checked := Try.checked }
namespace Rows
def none {H : Type} : Left H := { results := [], args := [] }

/-- 'marlstonelaw12.SeekProves': WHATEVER THE INPUT: true; the input reads as it did. -/
def seekProvesSpec : ChangeSpec := { name := "seekProves", fn := fun _ => fun
  | [d1, d2, d3, d4] => { results := [.lit (.bool true)], args := [d1, d2, d3, d4] }
  | _ => none }
def seekProvesRow : OpenClaim := { program := "ytobhbepiaibceaa", sum := "e69f253b5d5f8c4687805b95c65effb768ba7b22a0aae89df3b5c8a060bd1b4b", func := "marlstone/marlstonelaw12.SeekProves", spec := "seekProves", inPlace := ["internal/bytealg.abigen_runtime_cmpstring"], unfollowed := true, recurses := true, apart := false }
def SeekProvesSaid : Prop := seekProvesRow.holds Try.pinned (OpenSpec.ofChange seekProvesSpec)

/-- ITS FALSE NEIGHBOUR: 'it returns false'. Refute it at one input. -/
def seekProvesWrong : ChangeSpec := { name := "seekProves", fn := fun _ => fun
  | [d1, d2, d3, d4] => { results := [.lit (.bool false)], args := [d1, d2, d3, d4] }
  | _ => none }
def SeekProvesWrongFalsely : Prop := seekProvesRow.holds Try.pinned (OpenSpec.ofChange seekProvesWrong)

/-- 'marlstonelaw12.SeekChecks': WHATEVER THE INPUT: true; the input reads as it did. -/
def seekChecksSpec : ChangeSpec := { name := "seekChecks", fn := fun _ => fun
  | [d1, d2, d3, d4, d5, d6] => { results := [.lit (.bool true)], args := [d1, d2, d3, d4, d5, d6] }
  | _ => none }
def seekChecksRow : OpenClaim := { program := "ytobhbepiaibceaa", sum := "e69f253b5d5f8c4687805b95c65effb768ba7b22a0aae89df3b5c8a060bd1b4b", func := "marlstone/marlstonelaw12.SeekChecks", spec := "seekChecks", inPlace := ["internal/bytealg.abigen_runtime_cmpstring"], unfollowed := true, recurses := true, apart := false }
def SeekChecksSaid : Prop := seekChecksRow.holds Try.pinned (OpenSpec.ofChange seekChecksSpec)

/-- ITS FALSE NEIGHBOUR: 'it returns false'. Refute it at one input. -/
def seekChecksWrong : ChangeSpec := { name := "seekChecks", fn := fun _ => fun
  | [d1, d2, d3, d4, d5, d6] => { results := [.lit (.bool false)], args := [d1, d2, d3, d4, d5, d6] }
  | _ => none }
def SeekChecksWrongFalsely : Prop := seekChecksRow.holds Try.pinned (OpenSpec.ofChange seekChecksWrong)

/-- 'marlstonelaw12.SeekOther': WHATEVER THE INPUT: true; the input reads as it did. -/
def seekOtherSpec : ChangeSpec := { name := "seekOther", fn := fun _ => fun
  | [d1, d2, d3, d4] => { results := [.lit (.bool true)], args := [d1, d2, d3, d4] }
  | _ => none }
def seekOtherRow : OpenClaim := { program := "ytobhbepiaibceaa", sum := "e69f253b5d5f8c4687805b95c65effb768ba7b22a0aae89df3b5c8a060bd1b4b", func := "marlstone/marlstonelaw12.SeekOther", spec := "seekOther", inPlace := ["internal/bytealg.abigen_runtime_cmpstring"], unfollowed := true, recurses := true, apart := false }
def SeekOtherSaid : Prop := seekOtherRow.holds Try.pinned (OpenSpec.ofChange seekOtherSpec)

/-- ITS FALSE NEIGHBOUR: 'it returns false'. Refute it at one input. -/
def seekOtherWrong : ChangeSpec := { name := "seekOther", fn := fun _ => fun
  | [d1, d2, d3, d4] => { results := [.lit (.bool false)], args := [d1, d2, d3, d4] }
  | _ => none }
def SeekOtherWrongFalsely : Prop := seekOtherRow.holds Try.pinned (OpenSpec.ofChange seekOtherWrong)

/-- 'marlstonelaw12.SeekSound': WHATEVER THE INPUT: true; the input reads as it did. -/
def seekSoundSpec : ChangeSpec := { name := "seekSound", fn := fun _ => fun
  | [d1, d2, d3, d4] => { results := [.lit (.bool true)], args := [d1, d2, d3, d4] }
  | _ => none }
def seekSoundRow : OpenClaim := { program := "ytobhbepiaibceaa", sum := "e69f253b5d5f8c4687805b95c65effb768ba7b22a0aae89df3b5c8a060bd1b4b", func := "marlstone/marlstonelaw12.SeekSound", spec := "seekSound", inPlace := ["internal/bytealg.abigen_runtime_cmpstring"], unfollowed := true, recurses := true, apart := false }
def SeekSoundSaid : Prop := seekSoundRow.holds Try.pinned (OpenSpec.ofChange seekSoundSpec)

/-- ITS FALSE NEIGHBOUR: 'it returns false'. Refute it at one input. -/
def seekSoundWrong : ChangeSpec := { name := "seekSound", fn := fun _ => fun
  | [d1, d2, d3, d4] => { results := [.lit (.bool false)], args := [d1, d2, d3, d4] }
  | _ => none }
def SeekSoundWrongFalsely : Prop := seekSoundRow.holds Try.pinned (OpenSpec.ofChange seekSoundWrong)

/-- 'marlstonelaw12.SeekWhole': WHATEVER THE INPUT: true; the input reads as it did. -/
def seekWholeSpec : ChangeSpec := { name := "seekWhole", fn := fun _ => fun
  | [d1, d2] => { results := [.lit (.bool true)], args := [d1, d2] }
  | _ => none }
def seekWholeRow : OpenClaim := { program := "ytobhbepiaibceaa", sum := "e69f253b5d5f8c4687805b95c65effb768ba7b22a0aae89df3b5c8a060bd1b4b", func := "marlstone/marlstonelaw12.SeekWhole", spec := "seekWhole", inPlace := ["internal/bytealg.abigen_runtime_cmpstring"], unfollowed := true, recurses := true, apart := false }
def SeekWholeSaid : Prop := seekWholeRow.holds Try.pinned (OpenSpec.ofChange seekWholeSpec)

/-- ITS FALSE NEIGHBOUR: 'it returns false'. Refute it at one input. -/
def seekWholeWrong : ChangeSpec := { name := "seekWhole", fn := fun _ => fun
  | [d1, d2] => { results := [.lit (.bool false)], args := [d1, d2] }
  | _ => none }
def SeekWholeWrongFalsely : Prop := seekWholeRow.holds Try.pinned (OpenSpec.ofChange seekWholeWrong)

/-- 'marlstonelaw12.SeekBack': WHATEVER THE INPUT: true; the input reads as it did. -/
def seekBackSpec : ChangeSpec := { name := "seekBack", fn := fun _ => fun
  | [d1, d2, d3, d4] => { results := [.lit (.bool true)], args := [d1, d2, d3, d4] }
  | _ => none }
def seekBackRow : OpenClaim := { program := "ytobhbepiaibceaa", sum := "e69f253b5d5f8c4687805b95c65effb768ba7b22a0aae89df3b5c8a060bd1b4b", func := "marlstone/marlstonelaw12.SeekBack", spec := "seekBack", inPlace := ["internal/bytealg.abigen_runtime_cmpstring"], unfollowed := true, recurses := true, apart := false }
def SeekBackSaid : Prop := seekBackRow.holds Try.pinned (OpenSpec.ofChange seekBackSpec)

/-- ITS FALSE NEIGHBOUR: 'it returns false'. Refute it at one input. -/
def seekBackWrong : ChangeSpec := { name := "seekBack", fn := fun _ => fun
  | [d1, d2, d3, d4] => { results := [.lit (.bool false)], args := [d1, d2, d3, d4] }
  | _ => none }
def SeekBackWrongFalsely : Prop := seekBackRow.holds Try.pinned (OpenSpec.ofChange seekBackWrong)

/-- 'marlstonelaw12.SeekSpans': WHATEVER THE INPUT: true; the input reads as it did. -/
def seekSpansSpec : ChangeSpec := { name := "seekSpans", fn := fun _ => fun
  | [d1, d2, d3, d4, d5] => { results := [.lit (.bool true)], args := [d1, d2, d3, d4, d5] }
  | _ => none }
def seekSpansRow : OpenClaim := { program := "ytobhbepiaibceaa", sum := "e69f253b5d5f8c4687805b95c65effb768ba7b22a0aae89df3b5c8a060bd1b4b", func := "marlstone/marlstonelaw12.SeekSpans", spec := "seekSpans", inPlace := ["internal/bytealg.abigen_runtime_cmpstring"], unfollowed := true, recurses := true, apart := false }
def SeekSpansSaid : Prop := seekSpansRow.holds Try.pinned (OpenSpec.ofChange seekSpansSpec)

/-- ITS FALSE NEIGHBOUR: 'it returns false'. Refute it at one input. -/
def seekSpansWrong : ChangeSpec := { name := "seekSpans", fn := fun _ => fun
  | [d1, d2, d3, d4, d5] => { results := [.lit (.bool false)], args := [d1, d2, d3, d4, d5] }
  | _ => none }
def SeekSpansWrongFalsely : Prop := seekSpansRow.holds Try.pinned (OpenSpec.ofChange seekSpansWrong)

/- THE SECOND FORM. 'bulk': how many values and letters a reading holds, each counted each time it is reached (what is shared counts as often as it is met; a slice's spare places count too). A statement '..UptoSaid' is the law's where the arguments, and the package variables that the reading takes, are together of bulk at most 1048576: NARROWER than '..Said'. Prove '..Said' where nothing that the law and all that it calls make is longer than what came in: it says more and counts as full. Else prove '..UptoSaid'. A law counts once. -/
mutual
def uptoBulk {H : Type} : DataW H → Nat
  | .lit (.string bytes) => bytes.length + 1
  | .lit _ => 1
  | .nil => 1
  | .ptr d => uptoBulk d + 1
  | .slice elems spare => uptoBulkAll elems + uptoBulkAll spare + 1
  | .agg parts => uptoBulkAll parts + 1
  | .iface _ d => uptoBulk d + 1
  | .map entries => uptoBulkEntries entries + 1
  | .held _ => 1
def uptoBulkAll {H : Type} : List (DataW H) → Nat
  | [] => 0
  | d :: r => uptoBulk d + uptoBulkAll r
def uptoBulkEntries {H : Type} : List (Lit × DataW H) → Nat
  | [] => 0
  | x :: r => uptoBulkEntry x + uptoBulkEntries r
def uptoBulkEntry {H : Type} : Lit × DataW H → Nat
  | (.string bytes, d) => bytes.length + uptoBulk d + 1
  | (_, d) => uptoBulk d + 1
 end
def uptoSmall : (H : Type) → List (DataW H) → Bool := fun _ ds => decide (uptoBulkAll ds ≤ 1048576)
def OpenSpec.upto (s : _root_.Go.ChangeSpec) : _root_.Go.OpenSpec := { _root_.Go.OpenSpec.ofChange s with cond := some uptoSmall }

/-- 'marlstonelaw12.SeekProves', WHERE WHAT IT READS IS OF BULK AT MOST 1048576: true; the input reads as it did. -/
def seekProvesUptoRow : OpenClaim := { program := "ytobhbepiaibceaa", sum := "e69f253b5d5f8c4687805b95c65effb768ba7b22a0aae89df3b5c8a060bd1b4b", func := "marlstone/marlstonelaw12.SeekProves", spec := "seekProves", inPlace := ["internal/bytealg.abigen_runtime_cmpstring"], unfollowed := true, recurses := true, apart := false, narrowed := true }
def SeekProvesUptoSaid : Prop := seekProvesUptoRow.holds Try.pinned (OpenSpec.upto seekProvesSpec)

/-- 'marlstonelaw12.SeekChecks', WHERE WHAT IT READS IS OF BULK AT MOST 1048576: true; the input reads as it did. -/
def seekChecksUptoRow : OpenClaim := { program := "ytobhbepiaibceaa", sum := "e69f253b5d5f8c4687805b95c65effb768ba7b22a0aae89df3b5c8a060bd1b4b", func := "marlstone/marlstonelaw12.SeekChecks", spec := "seekChecks", inPlace := ["internal/bytealg.abigen_runtime_cmpstring"], unfollowed := true, recurses := true, apart := false, narrowed := true }
def SeekChecksUptoSaid : Prop := seekChecksUptoRow.holds Try.pinned (OpenSpec.upto seekChecksSpec)

/-- 'marlstonelaw12.SeekOther', WHERE WHAT IT READS IS OF BULK AT MOST 1048576: true; the input reads as it did. -/
def seekOtherUptoRow : OpenClaim := { program := "ytobhbepiaibceaa", sum := "e69f253b5d5f8c4687805b95c65effb768ba7b22a0aae89df3b5c8a060bd1b4b", func := "marlstone/marlstonelaw12.SeekOther", spec := "seekOther", inPlace := ["internal/bytealg.abigen_runtime_cmpstring"], unfollowed := true, recurses := true, apart := false, narrowed := true }
def SeekOtherUptoSaid : Prop := seekOtherUptoRow.holds Try.pinned (OpenSpec.upto seekOtherSpec)

/-- 'marlstonelaw12.SeekSound', WHERE WHAT IT READS IS OF BULK AT MOST 1048576: true; the input reads as it did. -/
def seekSoundUptoRow : OpenClaim := { program := "ytobhbepiaibceaa", sum := "e69f253b5d5f8c4687805b95c65effb768ba7b22a0aae89df3b5c8a060bd1b4b", func := "marlstone/marlstonelaw12.SeekSound", spec := "seekSound", inPlace := ["internal/bytealg.abigen_runtime_cmpstring"], unfollowed := true, recurses := true, apart := false, narrowed := true }
def SeekSoundUptoSaid : Prop := seekSoundUptoRow.holds Try.pinned (OpenSpec.upto seekSoundSpec)

/-- 'marlstonelaw12.SeekWhole', WHERE WHAT IT READS IS OF BULK AT MOST 1048576: true; the input reads as it did. -/
def seekWholeUptoRow : OpenClaim := { program := "ytobhbepiaibceaa", sum := "e69f253b5d5f8c4687805b95c65effb768ba7b22a0aae89df3b5c8a060bd1b4b", func := "marlstone/marlstonelaw12.SeekWhole", spec := "seekWhole", inPlace := ["internal/bytealg.abigen_runtime_cmpstring"], unfollowed := true, recurses := true, apart := false, narrowed := true }
def SeekWholeUptoSaid : Prop := seekWholeUptoRow.holds Try.pinned (OpenSpec.upto seekWholeSpec)

/-- 'marlstonelaw12.SeekBack', WHERE WHAT IT READS IS OF BULK AT MOST 1048576: true; the input reads as it did. -/
def seekBackUptoRow : OpenClaim := { program := "ytobhbepiaibceaa", sum := "e69f253b5d5f8c4687805b95c65effb768ba7b22a0aae89df3b5c8a060bd1b4b", func := "marlstone/marlstonelaw12.SeekBack", spec := "seekBack", inPlace := ["internal/bytealg.abigen_runtime_cmpstring"], unfollowed := true, recurses := true, apart := false, narrowed := true }
def SeekBackUptoSaid : Prop := seekBackUptoRow.holds Try.pinned (OpenSpec.upto seekBackSpec)

/-- 'marlstonelaw12.SeekSpans', WHERE WHAT IT READS IS OF BULK AT MOST 1048576: true; the input reads as it did. -/
def seekSpansUptoRow : OpenClaim := { program := "ytobhbepiaibceaa", sum := "e69f253b5d5f8c4687805b95c65effb768ba7b22a0aae89df3b5c8a060bd1b4b", func := "marlstone/marlstonelaw12.SeekSpans", spec := "seekSpans", inPlace := ["internal/bytealg.abigen_runtime_cmpstring"], unfollowed := true, recurses := true, apart := false, narrowed := true }
def SeekSpansUptoSaid : Prop := seekSpansUptoRow.holds Try.pinned (OpenSpec.upto seekSpansSpec)

end Rows
end Go.Proofs.Ytobhbepiaibceaa
