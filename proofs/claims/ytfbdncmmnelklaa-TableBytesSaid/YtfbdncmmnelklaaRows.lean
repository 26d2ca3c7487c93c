/-
  No cell of these rows narrows 'for every input' (looked for: loops, veiled, ifaces, maps, wideKeys, modest, calm, conditions, laid).
  DERIVED. THE GIVEN ROWS OF THIS SEAT. 8 by the template 'for every input the law returns true; each argument reads behind the call as it read before'; 0 by the template 'total and deterministic' (their statements: YtfbdncmmnelklaaTotals.lean).
  GIVEN WITH THE SEED: the statements are not yours to turn. If you find one false, say at which input.
  Laid BY PROGRAM, IN A SANDBOX (cutbox-rows.mjs): the forced cells as the released guide's own fill.sh prints them over the translation c1a06f7f4026c6f7… (all of the seat's roots in one cut). By AI agents, Wed Nov 11 2026. No macro, syntax, notation, axiom, sorry.
-/
import Derived.Test.YtfbdncmmnelklaaChecked
import GoSem.Claim
import GoSem.ClaimJoined
import GoSem.ClaimMapViews
import Derived.JoinedTies
import Derived.KernelRfl
namespace Go.Proofs.Ytfbdncmmnelklaa
/- THE CELL 'sum', in the pinned program and in every row, IS THE sha256 OF THE DUMP (.gsa) THAT YtfbdncmmnelklaaProg.lean LOADS. Nothing in Lean hashes anything: it is a label: what it is worth is what the hold of that sum in a sandbox is worth. -/
noncomputable def Try.pinned : Pinned := { name := "ytfbdncmmnelklaa", sum := "c1a06f7f4026c6f7c755502a637aa5a88adda425f9529c5c14bde1ef4c4e009a", checked := Try.checked }
namespace Rows
def none {H : Type} : Left H := { results := [], args := [] }

/-- 'marlstonelaw11.TableBytes': WHATEVER THE INPUT: true; the input reads as it did. -/
def tableBytesSpec : ChangeSpec := { name := "tableBytes", fn := fun _ => fun
  | [d1, d2, d3] => { results := [.lit (.bool true)], args := [d1, d2, d3] }
  | _ => none }
def tableBytesRow : OpenClaim := { program := "ytfbdncmmnelklaa", sum := "c1a06f7f4026c6f7c755502a637aa5a88adda425f9529c5c14bde1ef4c4e009a", func := "marlstone/marlstonelaw11.TableBytes", spec := "tableBytes", unfollowed := true, recurses := true, apart := false }
def TableBytesSaid : Prop := tableBytesRow.holds Try.pinned (OpenSpec.ofChange tableBytesSpec)

/-- ITS FALSE NEIGHBOUR: 'it returns false'. Refute it at one input. -/
def tableBytesWrong : ChangeSpec := { name := "tableBytes", fn := fun _ => fun
  | [d1, d2, d3] => { results := [.lit (.bool false)], args := [d1, d2, d3] }
  | _ => none }
def TableBytesWrongFalsely : Prop := tableBytesRow.holds Try.pinned (OpenSpec.ofChange tableBytesWrong)

/-- 'marlstonelaw11.TableOnce': WHATEVER THE INPUT: true; the input reads as it did. -/
def tableOnceSpec : ChangeSpec := { name := "tableOnce", fn := fun _ => fun
  | [d] => { results := [.lit (.bool true)], args := [d] }
  | _ => none }
def tableOnceRow : OpenClaim := { program := "ytfbdncmmnelklaa", sum := "c1a06f7f4026c6f7c755502a637aa5a88adda425f9529c5c14bde1ef4c4e009a", func := "marlstone/marlstonelaw11.TableOnce", spec := "tableOnce", unfollowed := true, recurses := true, apart := false }
def TableOnceSaid : Prop := tableOnceRow.holds Try.pinned (OpenSpec.ofChange tableOnceSpec)

/-- ITS FALSE NEIGHBOUR: 'it returns false'. Refute it at one input. -/
def tableOnceWrong : ChangeSpec := { name := "tableOnce", fn := fun _ => fun
  | [d] => { results := [.lit (.bool false)], args := [d] }
  | _ => none }
def TableOnceWrongFalsely : Prop := tableOnceRow.holds Try.pinned (OpenSpec.ofChange tableOnceWrong)

/-- 'marlstonelaw11.TableParses': WHATEVER THE INPUT: true; the input reads as it did. -/
def tableParsesSpec : ChangeSpec := { name := "tableParses", fn := fun _ => fun
  | [d1, d2] => { results := [.lit (.bool true)], args := [d1, d2] }
  | _ => none }
def tableParsesRow : OpenClaim := { program := "ytfbdncmmnelklaa", sum := "c1a06f7f4026c6f7c755502a637aa5a88adda425f9529c5c14bde1ef4c4e009a", func := "marlstone/marlstonelaw11.TableParses", spec := "tableParses", inPlace := ["internal/bytealg.abigen_runtime_cmpstring"], unfollowed := true, recurses := true, apart := false }
def TableParsesSaid : Prop := tableParsesRow.holds Try.pinned (OpenSpec.ofChange tableParsesSpec)

/-- ITS FALSE NEIGHBOUR: 'it returns false'. Refute it at one input. -/
def tableParsesWrong : ChangeSpec := { name := "tableParses", fn := fun _ => fun
  | [d1, d2] => { results := [.lit (.bool false)], args := [d1, d2] }
  | _ => none }
def TableParsesWrongFalsely : Prop := tableParsesRow.holds Try.pinned (OpenSpec.ofChange tableParsesWrong)

/-- 'marlstonelaw11.TableBlocks': WHATEVER THE INPUT: true; the input reads as it did. -/
def tableBlocksSpec : ChangeSpec := { name := "tableBlocks", fn := fun _ => fun
  | [d] => { results := [.lit (.bool true)], args := [d] }
  | _ => none }
def tableBlocksRow : OpenClaim := { program := "ytfbdncmmnelklaa", sum := "c1a06f7f4026c6f7c755502a637aa5a88adda425f9529c5c14bde1ef4c4e009a", func := "marlstone/marlstonelaw11.TableBlocks", spec := "tableBlocks", unfollowed := true, recurses := true, apart := false }
def TableBlocksSaid : Prop := tableBlocksRow.holds Try.pinned (OpenSpec.ofChange tableBlocksSpec)

/-- ITS FALSE NEIGHBOUR: 'it returns false'. Refute it at one input. -/
def tableBlocksWrong : ChangeSpec := { name := "tableBlocks", fn := fun _ => fun
  | [d] => { results := [.lit (.bool false)], args := [d] }
  | _ => none }
def TableBlocksWrongFalsely : Prop := tableBlocksRow.holds Try.pinned (OpenSpec.ofChange tableBlocksWrong)

/-- 'marlstonelaw11.TableLevels': WHATEVER THE INPUT: true; the input reads as it did. -/
def tableLevelsSpec : ChangeSpec := { name := "tableLevels", fn := fun _ => fun
  | [d1, d2, d3, d4] => { results := [.lit (.bool true)], args := [d1, d2, d3, d4] }
  | _ => none }
def tableLevelsRow : OpenClaim := { program := "ytfbdncmmnelklaa", sum := "c1a06f7f4026c6f7c755502a637aa5a88adda425f9529c5c14bde1ef4c4e009a", func := "marlstone/marlstonelaw11.TableLevels", spec := "tableLevels", unfollowed := true, recurses := true, apart := false }
def TableLevelsSaid : Prop := tableLevelsRow.holds Try.pinned (OpenSpec.ofChange tableLevelsSpec)

/-- ITS FALSE NEIGHBOUR: 'it returns false'. Refute it at one input. -/
def tableLevelsWrong : ChangeSpec := { name := "tableLevels", fn := fun _ => fun
  | [d1, d2, d3, d4] => { results := [.lit (.bool false)], args := [d1, d2, d3, d4] }
  | _ => none }
def TableLevelsWrongFalsely : Prop := tableLevelsRow.holds Try.pinned (OpenSpec.ofChange tableLevelsWrong)

/-- 'marlstonelaw11.TableKnown': WHATEVER THE INPUT: true; the input reads as it did. -/
def tableKnownSpec : ChangeSpec := { name := "tableKnown", fn := fun _ => fun
  | [d1, d2, d3] => { results := [.lit (.bool true)], args := [d1, d2, d3] }
  | _ => none }
def tableKnownRow : OpenClaim := { program := "ytfbdncmmnelklaa", sum := "c1a06f7f4026c6f7c755502a637aa5a88adda425f9529c5c14bde1ef4c4e009a", func := "marlstone/marlstonelaw11.TableKnown", spec := "tableKnown", unfollowed := true, recurses := true, apart := false }
def TableKnownSaid : Prop := tableKnownRow.holds Try.pinned (OpenSpec.ofChange tableKnownSpec)

/-- ITS FALSE NEIGHBOUR: 'it returns false'. Refute it at one input. -/
def tableKnownWrong : ChangeSpec := { name := "tableKnown", fn := fun _ => fun
  | [d1, d2, d3] => { results := [.lit (.bool false)], args := [d1, d2, d3] }
  | _ => none }
def TableKnownWrongFalsely : Prop := tableKnownRow.holds Try.pinned (OpenSpec.ofChange tableKnownWrong)

/-- 'marlstonelaw11.TableCuts': WHATEVER THE INPUT: true; the input reads as it did. -/
def tableCutsSpec : ChangeSpec := { name := "tableCuts", fn := fun _ => fun
  | [d1, d2, d3] => { results := [.lit (.bool true)], args := [d1, d2, d3] }
  | _ => none }
def tableCutsRow : OpenClaim := { program := "ytfbdncmmnelklaa", sum := "c1a06f7f4026c6f7c755502a637aa5a88adda425f9529c5c14bde1ef4c4e009a", func := "marlstone/marlstonelaw11.TableCuts", spec := "tableCuts", unfollowed := true, recurses := true, apart := false }
def TableCutsSaid : Prop := tableCutsRow.holds Try.pinned (OpenSpec.ofChange tableCutsSpec)

/-- ITS FALSE NEIGHBOUR: 'it returns false'. Refute it at one input. -/
def tableCutsWrong : ChangeSpec := { name := "tableCuts", fn := fun _ => fun
  | [d1, d2, d3] => { results := [.lit (.bool false)], args := [d1, d2, d3] }
  | _ => none }
def TableCutsWrongFalsely : Prop := tableCutsRow.holds Try.pinned (OpenSpec.ofChange tableCutsWrong)

/-- 'marlstonelaw11.TableBack': WHATEVER THE INPUT: true; the input reads as it did. -/
def tableBackSpec : ChangeSpec := { name := "tableBack", fn := fun _ => fun
  | [d1, d2] => { results := [.lit (.bool true)], args := [d1, d2] }
  | _ => none }
def tableBackRow : OpenClaim := { program := "ytfbdncmmnelklaa", sum := "c1a06f7f4026c6f7c755502a637aa5a88adda425f9529c5c14bde1ef4c4e009a", func := "marlstone/marlstonelaw11.TableBack", spec := "tableBack", inPlace := ["internal/bytealg.abigen_runtime_cmpstring"], unfollowed := true, recurses := true, apart := false }
def TableBackSaid : Prop := tableBackRow.holds Try.pinned (OpenSpec.ofChange tableBackSpec)

/-- ITS FALSE NEIGHBOUR: 'it returns false'. Refute it at one input. -/
def tableBackWrong : ChangeSpec := { name := "tableBack", fn := fun _ => fun
  | [d1, d2] => { results := [.lit (.bool false)], args := [d1, d2] }
  | _ => none }
def TableBackWrongFalsely : Prop := tableBackRow.holds Try.pinned (OpenSpec.ofChange tableBackWrong)

/- THE SECOND FORM. 'bulk': how many values and letters a reading holds, each counted each time it is reached (what is shared counts as often as it is met; a slice's spare places count too). A statement '..UptoSaid' is the law's where the arguments, and the package variables that the reading takes, are together of bulk at most 1048576: NARROWER than '..Said'. Prove '..Said' where nothing that the law and all that it calls make is longer than what came in: it says more and counts as full. Else prove '..UptoSaid'. A law counts once. -/
mutual
def uptoBulk {H : Type} : DataW H → Nat
  | .lit (.string bytes) => bytes.length + 1
  | .lit _ => 1
  | .nil => 1
  | .ptr d => uptoBulk d + 1
  | .slice elems spare => uptoBulkAll elems + uptoBulkAll spare + 1
  | .agg parts => uptoBulkAll parts + 1
  | .iface _ d => uptoBulk d + 1
  | .map entries => uptoBulkEntries entries + 1
  | .held _ => 1
def uptoBulkAll {H : Type} : List (DataW H) → Nat
  | [] => 0
  | d :: r => uptoBulk d + uptoBulkAll r
def uptoBulkEntries {H : Type} : List (Lit × DataW H) → Nat
  | [] => 0
  | x :: r => uptoBulkEntry x + uptoBulkEntries r
def uptoBulkEntry {H : Type} : Lit × DataW H → Nat
  | (.string bytes, d) => bytes.length + uptoBulk d + 1
  | (_, d) => uptoBulk d + 1
 end
def uptoSmall : (H : Type) → List (DataW H) → Bool := fun _ ds => decide (uptoBulkAll ds ≤ 1048576)
def OpenSpec.upto (s : _root_.Go.ChangeSpec) : _root_.Go.OpenSpec := { _root_.Go.OpenSpec.ofChange s with cond := some uptoSmall }

/-- 'marlstonelaw11.TableBytes', WHERE WHAT IT READS IS OF BULK AT MOST 1048576: true; the input reads as it did. -/
def tableBytesUptoRow : OpenClaim := { program := "ytfbdncmmnelklaa", sum := "c1a06f7f4026c6f7c755502a637aa5a88adda425f9529c5c14bde1ef4c4e009a", func := "marlstone/marlstonelaw11.TableBytes", spec := "tableBytes", unfollowed := true, recurses := true, apart := false, narrowed := true }
def TableBytesUptoSaid : Prop := tableBytesUptoRow.holds Try.pinned (OpenSpec.upto tableBytesSpec)

/-- 'marlstonelaw11.TableOnce', WHERE WHAT IT READS IS OF BULK AT MOST 1048576: true; the input reads as it did. -/
def tableOnceUptoRow : OpenClaim := { program := "ytfbdncmmnelklaa", sum := "c1a06f7f4026c6f7c755502a637aa5a88adda425f9529c5c14bde1ef4c4e009a", func := "marlstone/marlstonelaw11.TableOnce", spec := "tableOnce", unfollowed := true, recurses := true, apart := false, narrowed := true }
def TableOnceUptoSaid : Prop := tableOnceUptoRow.holds Try.pinned (OpenSpec.upto tableOnceSpec)

/-- 'marlstonelaw11.TableParses', WHERE WHAT IT READS IS OF BULK AT MOST 1048576: true; the input reads as it did. -/
def tableParsesUptoRow : OpenClaim := { program := "ytfbdncmmnelklaa", sum := "c1a06f7f4026c6f7c755502a637aa5a88adda425f9529c5c14bde1ef4c4e009a", func := "marlstone/marlstonelaw11.TableParses", spec := "tableParses", inPlace := ["internal/bytealg.abigen_runtime_cmpstring"], unfollowed := true, recurses := true, apart := false, narrowed := true }
def TableParsesUptoSaid : Prop := tableParsesUptoRow.holds Try.pinned (OpenSpec.upto tableParsesSpec)

/-- 'marlstonelaw11.TableBlocks', WHERE WHAT IT READS IS OF BULK AT MOST 1048576: true; the input reads as it did. -/
def tableBlocksUptoRow : OpenClaim := { program := "ytfbdncmmnelklaa", sum := "c1a06f7f4026c6f7c755502a637aa5a88adda425f9529c5c14bde1ef4c4e009a", func := "marlstone/marlstonelaw11.TableBlocks", spec := "tableBlocks", unfollowed := true, recurses := true, apart := false, narrowed := true }
def TableBlocksUptoSaid : Prop := tableBlocksUptoRow.holds Try.pinned (OpenSpec.upto tableBlocksSpec)

/-- 'marlstonelaw11.TableLevels', WHERE WHAT IT READS IS OF BULK AT MOST 1048576: true; the input reads as it did. -/
def tableLevelsUptoRow : OpenClaim := { program := "ytfbdncmmnelklaa", sum := "c1a06f7f4026c6f7c755502a637aa5a88adda425f9529c5c14bde1ef4c4e009a", func := "marlstone/marlstonelaw11.TableLevels", spec := "tableLevels", unfollowed := true, recurses := true, apart := false, narrowed := true }
def TableLevelsUptoSaid : Prop := tableLevelsUptoRow.holds Try.pinned (OpenSpec.upto tableLevelsSpec)

/-- 'marlstonelaw11.TableKnown', WHERE WHAT IT READS IS OF BULK AT MOST 1048576: true; the input reads as it did. -/
def tableKnownUptoRow : OpenClaim := { program := "ytfbdncmmnelklaa", sum := "c1a06f7f4026c6f7c755502a637aa5a88adda425f9529c5c14bde1ef4c4e009a", func := "marlstone/marlstonelaw11.TableKnown", spec := "tableKnown", unfollowed := true, recurses := true, apart := false, narrowed := true }
def TableKnownUptoSaid : Prop := tableKnownUptoRow.holds Try.pinned (OpenSpec.upto tableKnownSpec)

/-- 'marlstonelaw11.TableCuts', WHERE WHAT IT READS IS OF BULK AT MOST 1048576: true; the input reads as it did. -/
def tableCutsUptoRow : OpenClaim := { program := "ytfbdncmmnelklaa", sum := "c1a06f7f4026c6f7c755502a637aa5a88adda425f9529c5c14bde1ef4c4e009a", func := "marlstone/marlstonelaw11.TableCuts", spec := "tableCuts", unfollowed := true, recurses := true, apart := false, narrowed := true }
def TableCutsUptoSaid : Prop := tableCutsUptoRow.holds Try.pinned (OpenSpec.upto tableCutsSpec)

/-- 'marlstonelaw11.TableBack', WHERE WHAT IT READS IS OF BULK AT MOST 1048576: true; the input reads as it did. -/
def tableBackUptoRow : OpenClaim := { program := "ytfbdncmmnelklaa", sum := "c1a06f7f4026c6f7c755502a637aa5a88adda425f9529c5c14bde1ef4c4e009a", func := "marlstone/marlstonelaw11.TableBack", spec := "tableBack", inPlace := ["internal/bytealg.abigen_runtime_cmpstring"], unfollowed := true, recurses := true, apart := false, narrowed := true }
def TableBackUptoSaid : Prop := tableBackUptoRow.holds Try.pinned (OpenSpec.upto tableBackSpec)

end Rows
end Go.Proofs.Ytfbdncmmnelklaa
