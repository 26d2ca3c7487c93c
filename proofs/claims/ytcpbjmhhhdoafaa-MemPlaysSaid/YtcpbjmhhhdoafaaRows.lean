/-
  No cell of these rows narrows 'for every input' (looked for: loops, veiled, ifaces, maps, wideKeys, modest, calm, conditions, laid).
  DERIVED. THE GIVEN ROWS OF THIS SEAT. 6 by the template 'for every input the law returns true; each argument reads behind the call as it read before'; 0 by the template 'total and deterministic' (their statements: YtcpbjmhhhdoafaaTotals.lean).
  GIVEN WITH THE SEED: the statements are not yours to turn. If you find one false, say at which input.
  Laid BY PROGRAM, IN A SANDBOX (cutbox-rows.mjs): the forced cells as the released guide's own fill.sh prints them over the translation 4dd45c56485fd283… (all of the seat's roots in one cut). By AI agents, Wed Nov 11 2026. No macro, syntax, notation, axiom, sorry.
-/
import Derived.Test.YtcpbjmhhhdoafaaChecked
import GoSem.Claim
import GoSem.ClaimJoined
import GoSem.ClaimMapViews
import Derived.JoinedTies
import Derived.KernelRfl
namespace Go.Proofs.Ytcpbjmhhhdoafaa
/- THE CELL 'sum', in the pinned program and in every row, IS THE sha256 OF THE DUMP (.gsa) THAT YtcpbjmhhhdoafaaProg.lean LOADS. Nothing in Lean hashes anything: it is a label: what it is worth is what the hold of that sum in a sandbox is worth. -/
noncomputable def Try.pinned : Pinned := { name := "ytcpbjmhhhdoafaa", sum := "4dd45c56485fd28319e1e14bf4e42be85739ef7cdaf0c6ad6ff1c88cd5d4826f", checked := Try.checked }
namespace Rows
def none {H : Type} : Left H := { results := [], args := [] }

/-- 'marlstonelaw10.MemFull': WHATEVER THE INPUT: true; the input reads as it did. -/
def memFullSpec : ChangeSpec := { name := "memFull", fn := fun _ => fun
  | [d] => { results := [.lit (.bool true)], args := [d] }
  | _ => none }
def memFullRow : OpenClaim := { program := "ytcpbjmhhhdoafaa", sum := "4dd45c56485fd28319e1e14bf4e42be85739ef7cdaf0c6ad6ff1c88cd5d4826f", func := "marlstone/marlstonelaw10.MemFull", spec := "memFull", inPlace := ["internal/bytealg.abigen_runtime_cmpstring", "slices.overlaps[marlstone/api.Entry]"], unfollowed := true, recurses := true, apart := false }
def MemFullSaid : Prop := memFullRow.holds Try.pinned (OpenSpec.ofChange memFullSpec)

/-- ITS FALSE NEIGHBOUR: 'it returns false'. Refute it at one input. -/
def memFullWrong : ChangeSpec := { name := "memFull", fn := fun _ => fun
  | [d] => { results := [.lit (.bool false)], args := [d] }
  | _ => none }
def MemFullWrongFalsely : Prop := memFullRow.holds Try.pinned (OpenSpec.ofChange memFullWrong)

/-- 'marlstonelaw10.MemLast': WHATEVER THE INPUT: true; the input reads as it did. -/
def memLastSpec : ChangeSpec := { name := "memLast", fn := fun _ => fun
  | [d1, d2, d3] => { results := [.lit (.bool true)], args := [d1, d2, d3] }
  | _ => none }
def memLastRow : OpenClaim := { program := "ytcpbjmhhhdoafaa", sum := "4dd45c56485fd28319e1e14bf4e42be85739ef7cdaf0c6ad6ff1c88cd5d4826f", func := "marlstone/marlstonelaw10.MemLast", spec := "memLast", inPlace := ["internal/bytealg.abigen_runtime_cmpstring", "slices.overlaps[marlstone/api.Entry]"], unfollowed := true, recurses := true, apart := false }
def MemLastSaid : Prop := memLastRow.holds Try.pinned (OpenSpec.ofChange memLastSpec)

/-- ITS FALSE NEIGHBOUR: 'it returns false'. Refute it at one input. -/
def memLastWrong : ChangeSpec := { name := "memLast", fn := fun _ => fun
  | [d1, d2, d3] => { results := [.lit (.bool false)], args := [d1, d2, d3] }
  | _ => none }
def MemLastWrongFalsely : Prop := memLastRow.holds Try.pinned (OpenSpec.ofChange memLastWrong)

/-- 'marlstonelaw10.MemPlays': WHATEVER THE INPUT: true; the input reads as it did. -/
def memPlaysSpec : ChangeSpec := { name := "memPlays", fn := fun _ => fun
  | [d] => { results := [.lit (.bool true)], args := [d] }
  | _ => none }
def memPlaysRow : OpenClaim := { program := "ytcpbjmhhhdoafaa", sum := "4dd45c56485fd28319e1e14bf4e42be85739ef7cdaf0c6ad6ff1c88cd5d4826f", func := "marlstone/marlstonelaw10.MemPlays", spec := "memPlays", inPlace := ["internal/bytealg.abigen_runtime_cmpstring", "slices.overlaps[marlstone/api.Entry]"], unfollowed := true, recurses := true, apart := false }
def MemPlaysSaid : Prop := memPlaysRow.holds Try.pinned (OpenSpec.ofChange memPlaysSpec)

/-- ITS FALSE NEIGHBOUR: 'it returns false'. Refute it at one input. -/
def memPlaysWrong : ChangeSpec := { name := "memPlays", fn := fun _ => fun
  | [d] => { results := [.lit (.bool false)], args := [d] }
  | _ => none }
def MemPlaysWrongFalsely : Prop := memPlaysRow.holds Try.pinned (OpenSpec.ofChange memPlaysWrong)

/-- 'marlstonelaw10.MemChains': WHATEVER THE INPUT: true; the input reads as it did. -/
def memChainsSpec : ChangeSpec := { name := "memChains", fn := fun _ => fun
  | [d1, d2] => { results := [.lit (.bool true)], args := [d1, d2] }
  | _ => none }
def memChainsRow : OpenClaim := { program := "ytcpbjmhhhdoafaa", sum := "4dd45c56485fd28319e1e14bf4e42be85739ef7cdaf0c6ad6ff1c88cd5d4826f", func := "marlstone/marlstonelaw10.MemChains", spec := "memChains", inPlace := ["internal/bytealg.abigen_runtime_cmpstring", "slices.overlaps[marlstone/api.Entry]"], unfollowed := true, recurses := true, apart := false }
def MemChainsSaid : Prop := memChainsRow.holds Try.pinned (OpenSpec.ofChange memChainsSpec)

/-- ITS FALSE NEIGHBOUR: 'it returns false'. Refute it at one input. -/
def memChainsWrong : ChangeSpec := { name := "memChains", fn := fun _ => fun
  | [d1, d2] => { results := [.lit (.bool false)], args := [d1, d2] }
  | _ => none }
def MemChainsWrongFalsely : Prop := memChainsRow.holds Try.pinned (OpenSpec.ofChange memChainsWrong)

/-- 'marlstonelaw10.MemRanges': WHATEVER THE INPUT: true; the input reads as it did. -/
def memRangesSpec : ChangeSpec := { name := "memRanges", fn := fun _ => fun
  | [d1, d2, d3] => { results := [.lit (.bool true)], args := [d1, d2, d3] }
  | _ => none }
def memRangesRow : OpenClaim := { program := "ytcpbjmhhhdoafaa", sum := "4dd45c56485fd28319e1e14bf4e42be85739ef7cdaf0c6ad6ff1c88cd5d4826f", func := "marlstone/marlstonelaw10.MemRanges", spec := "memRanges", inPlace := ["internal/bytealg.abigen_runtime_cmpstring", "slices.overlaps[marlstone/api.Entry]"], unfollowed := true, recurses := true, apart := false }
def MemRangesSaid : Prop := memRangesRow.holds Try.pinned (OpenSpec.ofChange memRangesSpec)

/-- ITS FALSE NEIGHBOUR: 'it returns false'. Refute it at one input. -/
def memRangesWrong : ChangeSpec := { name := "memRanges", fn := fun _ => fun
  | [d1, d2, d3] => { results := [.lit (.bool false)], args := [d1, d2, d3] }
  | _ => none }
def MemRangesWrongFalsely : Prop := memRangesRow.holds Try.pinned (OpenSpec.ofChange memRangesWrong)

/-- 'marlstonelaw10.MemFolds': WHATEVER THE INPUT: true; the input reads as it did. -/
def memFoldsSpec : ChangeSpec := { name := "memFolds", fn := fun _ => fun
  | [d1, d2, d3] => { results := [.lit (.bool true)], args := [d1, d2, d3] }
  | _ => none }
def memFoldsRow : OpenClaim := { program := "ytcpbjmhhhdoafaa", sum := "4dd45c56485fd28319e1e14bf4e42be85739ef7cdaf0c6ad6ff1c88cd5d4826f", func := "marlstone/marlstonelaw10.MemFolds", spec := "memFolds", inPlace := ["internal/bytealg.abigen_runtime_cmpstring", "slices.overlaps[marlstone/api.Entry]"], unfollowed := true, recurses := true, apart := false }
def MemFoldsSaid : Prop := memFoldsRow.holds Try.pinned (OpenSpec.ofChange memFoldsSpec)

/-- ITS FALSE NEIGHBOUR: 'it returns false'. Refute it at one input. -/
def memFoldsWrong : ChangeSpec := { name := "memFolds", fn := fun _ => fun
  | [d1, d2, d3] => { results := [.lit (.bool false)], args := [d1, d2, d3] }
  | _ => none }
def MemFoldsWrongFalsely : Prop := memFoldsRow.holds Try.pinned (OpenSpec.ofChange memFoldsWrong)

/- THE SECOND FORM. 'bulk': how many values and letters a reading holds, each counted each time it is reached (what is shared counts as often as it is met; a slice's spare places count too). A statement '..UptoSaid' is the law's where the arguments, and the package variables that the reading takes, are together of bulk at most 1048576: NARROWER than '..Said'. Prove '..Said' where nothing that the law and all that it calls make is longer than what came in: it says more and counts as full. Else prove '..UptoSaid'. A law counts once. -/
mutual
def uptoBulk {H : Type} : DataW H → Nat
  | .lit (.string bytes) => bytes.length + 1
  | .lit _ => 1
  | .nil => 1
  | .ptr d => uptoBulk d + 1
  | .slice elems spare => uptoBulkAll elems + uptoBulkAll spare + 1
  | .agg parts => uptoBulkAll parts + 1
  | .iface _ d => uptoBulk d + 1
  | .map entries => uptoBulkEntries entries + 1
  | .held _ => 1
def uptoBulkAll {H : Type} : List (DataW H) → Nat
  | [] => 0
  | d :: r => uptoBulk d + uptoBulkAll r
def uptoBulkEntries {H : Type} : List (Lit × DataW H) → Nat
  | [] => 0
  | x :: r => uptoBulkEntry x + uptoBulkEntries r
def uptoBulkEntry {H : Type} : Lit × DataW H → Nat
  | (.string bytes, d) => bytes.length + uptoBulk d + 1
  | (_, d) => uptoBulk d + 1
 end
def uptoSmall : (H : Type) → List (DataW H) → Bool := fun _ ds => decide (uptoBulkAll ds ≤ 1048576)
def OpenSpec.upto (s : _root_.Go.ChangeSpec) : _root_.Go.OpenSpec := { _root_.Go.OpenSpec.ofChange s with cond := some uptoSmall }

/-- 'marlstonelaw10.MemFull', WHERE WHAT IT READS IS OF BULK AT MOST 1048576: true; the input reads as it did. -/
def memFullUptoRow : OpenClaim := { program := "ytcpbjmhhhdoafaa", sum := "4dd45c56485fd28319e1e14bf4e42be85739ef7cdaf0c6ad6ff1c88cd5d4826f", func := "marlstone/marlstonelaw10.MemFull", spec := "memFull", inPlace := ["internal/bytealg.abigen_runtime_cmpstring", "slices.overlaps[marlstone/api.Entry]"], unfollowed := true, recurses := true, apart := false, narrowed := true }
def MemFullUptoSaid : Prop := memFullUptoRow.holds Try.pinned (OpenSpec.upto memFullSpec)

/-- 'marlstonelaw10.MemLast', WHERE WHAT IT READS IS OF BULK AT MOST 1048576: true; the input reads as it did. -/
def memLastUptoRow : OpenClaim := { program := "ytcpbjmhhhdoafaa", sum := "4dd45c56485fd28319e1e14bf4e42be85739ef7cdaf0c6ad6ff1c88cd5d4826f", func := "marlstone/marlstonelaw10.MemLast", spec := "memLast", inPlace := ["internal/bytealg.abigen_runtime_cmpstring", "slices.overlaps[marlstone/api.Entry]"], unfollowed := true, recurses := true, apart := false, narrowed := true }
def MemLastUptoSaid : Prop := memLastUptoRow.holds Try.pinned (OpenSpec.upto memLastSpec)

/-- 'marlstonelaw10.MemPlays', WHERE WHAT IT READS IS OF BULK AT MOST 1048576: true; the input reads as it did. -/
def memPlaysUptoRow : OpenClaim := { program := "ytcpbjmhhhdoafaa", sum := "4dd45c56485fd28319e1e14bf4e42be85739ef7cdaf0c6ad6ff1c88cd5d4826f", func := "marlstone/marlstonelaw10.MemPlays", spec := "memPlays", inPlace := ["internal/bytealg.abigen_runtime_cmpstring", "slices.overlaps[marlstone/api.Entry]"], unfollowed := true, recurses := true, apart := false, narrowed := true }
def MemPlaysUptoSaid : Prop := memPlaysUptoRow.holds Try.pinned (OpenSpec.upto memPlaysSpec)

/-- 'marlstonelaw10.MemChains', WHERE WHAT IT READS IS OF BULK AT MOST 1048576: true; the input reads as it did. -/
def memChainsUptoRow : OpenClaim := { program := "ytcpbjmhhhdoafaa", sum := "4dd45c56485fd28319e1e14bf4e42be85739ef7cdaf0c6ad6ff1c88cd5d4826f", func := "marlstone/marlstonelaw10.MemChains", spec := "memChains", inPlace := ["internal/bytealg.abigen_runtime_cmpstring", "slices.overlaps[marlstone/api.Entry]"], unfollowed := true, recurses := true, apart := false, narrowed := true }
def MemChainsUptoSaid : Prop := memChainsUptoRow.holds Try.pinned (OpenSpec.upto memChainsSpec)

/-- 'marlstonelaw10.MemRanges', WHERE WHAT IT READS IS OF BULK AT MOST 1048576: true; the input reads as it did. -/
def memRangesUptoRow : OpenClaim := { program := "ytcpbjmhhhdoafaa", sum := "4dd45c56485fd28319e1e14bf4e42be85739ef7cdaf0c6ad6ff1c88cd5d4826f", func := "marlstone/marlstonelaw10.MemRanges", spec := "memRanges", inPlace := ["internal/bytealg.abigen_runtime_cmpstring", "slices.overlaps[marlstone/api.Entry]"], unfollowed := true, recurses := true, apart := false, narrowed := true }
def MemRangesUptoSaid : Prop := memRangesUptoRow.holds Try.pinned (OpenSpec.upto memRangesSpec)

/-- 'marlstonelaw10.MemFolds', WHERE WHAT IT READS IS OF BULK AT MOST 1048576: true; the input reads as it did. -/
def memFoldsUptoRow : OpenClaim := { program := "ytcpbjmhhhdoafaa", sum := "4dd45c56485fd28319e1e14bf4e42be85739ef7cdaf0c6ad6ff1c88cd5d4826f", func := "marlstone/marlstonelaw10.MemFolds", spec := "memFolds", inPlace := ["internal/bytealg.abigen_runtime_cmpstring", "slices.overlaps[marlstone/api.Entry]"], unfollowed := true, recurses := true, apart := false, narrowed := true }
def MemFoldsUptoSaid : Prop := memFoldsUptoRow.holds Try.pinned (OpenSpec.upto memFoldsSpec)

end Rows
end Go.Proofs.Ytcpbjmhhhdoafaa
