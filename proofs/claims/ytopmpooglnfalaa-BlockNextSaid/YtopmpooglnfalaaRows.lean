/-
  No cell of these rows narrows 'for every input' (looked for: loops, veiled, ifaces, maps, wideKeys, modest, calm, conditions, laid).
  DERIVED. THE GIVEN ROWS OF THIS SEAT. 15 by the template 'for every input the law returns true; each argument reads behind the call as it read before'; 0 by the template 'total and deterministic' (their statements: YtopmpooglnfalaaTotals.lean).
  GIVEN WITH THE SEED: the statements are not yours to turn. If you find one false, say at which input.
  Laid BY PROGRAM, IN A SANDBOX (cutbox-rows.mjs): the forced cells as the released guide's own fill.sh prints them over the translation c2cf19345760ecb0… (all of the seat's roots in one cut). By AI agents, Wed Nov 11 2026. No macro, syntax, notation, axiom, sorry.
-/
import Derived.Test.YtopmpooglnfalaaChecked
import GoSem.Claim
import GoSem.ClaimJoined
import GoSem.ClaimMapViews
import Derived.JoinedTies
import Derived.KernelRfl
namespace Go.Proofs.Ytopmpooglnfalaa
/- THE CELL 'sum', in the pinned program and in every row, IS THE sha256 OF THE DUMP (.gsa) THAT YtopmpooglnfalaaProg.lean LOADS. Nothing in Lean hashes anything: it is a label: what it is worth is what the hold of that sum in a sandbox is worth. -/
noncomputable def Try.pinned : Pinned := { name := "ytopmpooglnfalaa", sum := "c2cf19345760ecb0c89ab055c1ddb9a6ccb7755aadd3429b81415502604d348b", checked := Try.checked }
namespace Rows
def none {H : Type} : Left H := { results := [], args := [] }

/-- 'marlstonelaw04.BlockBytes': WHATEVER THE INPUT: true; the input reads as it did. -/
def blockBytesSpec : ChangeSpec := { name := "blockBytes", fn := fun _ => fun
  | [d] => { results := [.lit (.bool true)], args := [d] }
  | _ => none }
def blockBytesRow : OpenClaim := { program := "ytopmpooglnfalaa", sum := "c2cf19345760ecb0c89ab055c1ddb9a6ccb7755aadd3429b81415502604d348b", func := "marlstone/marlstonelaw04.BlockBytes", spec := "blockBytes", unfollowed := true, recurses := true, apart := false }
def BlockBytesSaid : Prop := blockBytesRow.holds Try.pinned (OpenSpec.ofChange blockBytesSpec)

/-- ITS FALSE NEIGHBOUR: 'it returns false'. Refute it at one input. -/
def blockBytesWrong : ChangeSpec := { name := "blockBytes", fn := fun _ => fun
  | [d] => { results := [.lit (.bool false)], args := [d] }
  | _ => none }
def BlockBytesWrongFalsely : Prop := blockBytesRow.holds Try.pinned (OpenSpec.ofChange blockBytesWrong)

/-- 'marlstonelaw04.BlockFits': WHATEVER THE INPUT: true; the input reads as it did. -/
def blockFitsSpec : ChangeSpec := { name := "blockFits", fn := fun _ => fun
  | [d] => { results := [.lit (.bool true)], args := [d] }
  | _ => none }
def blockFitsRow : OpenClaim := { program := "ytopmpooglnfalaa", sum := "c2cf19345760ecb0c89ab055c1ddb9a6ccb7755aadd3429b81415502604d348b", func := "marlstone/marlstonelaw04.BlockFits", spec := "blockFits", unfollowed := true, recurses := true, apart := false }
def BlockFitsSaid : Prop := blockFitsRow.holds Try.pinned (OpenSpec.ofChange blockFitsSpec)

/-- ITS FALSE NEIGHBOUR: 'it returns false'. Refute it at one input. -/
def blockFitsWrong : ChangeSpec := { name := "blockFits", fn := fun _ => fun
  | [d] => { results := [.lit (.bool false)], args := [d] }
  | _ => none }
def BlockFitsWrongFalsely : Prop := blockFitsRow.holds Try.pinned (OpenSpec.ofChange blockFitsWrong)

/-- 'marlstonelaw04.BlockOnce': WHATEVER THE INPUT: true; the input reads as it did. -/
def blockOnceSpec : ChangeSpec := { name := "blockOnce", fn := fun _ => fun
  | [d] => { results := [.lit (.bool true)], args := [d] }
  | _ => none }
def blockOnceRow : OpenClaim := { program := "ytopmpooglnfalaa", sum := "c2cf19345760ecb0c89ab055c1ddb9a6ccb7755aadd3429b81415502604d348b", func := "marlstone/marlstonelaw04.BlockOnce", spec := "blockOnce", unfollowed := true, recurses := true, apart := false }
def BlockOnceSaid : Prop := blockOnceRow.holds Try.pinned (OpenSpec.ofChange blockOnceSpec)

/-- ITS FALSE NEIGHBOUR: 'it returns false'. Refute it at one input. -/
def blockOnceWrong : ChangeSpec := { name := "blockOnce", fn := fun _ => fun
  | [d] => { results := [.lit (.bool false)], args := [d] }
  | _ => none }
def BlockOnceWrongFalsely : Prop := blockOnceRow.holds Try.pinned (OpenSpec.ofChange blockOnceWrong)

/-- 'marlstonelaw04.BlockParses': WHATEVER THE INPUT: true; the input reads as it did. -/
def blockParsesSpec : ChangeSpec := { name := "blockParses", fn := fun _ => fun
  | [d1, d2] => { results := [.lit (.bool true)], args := [d1, d2] }
  | _ => none }
def blockParsesRow : OpenClaim := { program := "ytopmpooglnfalaa", sum := "c2cf19345760ecb0c89ab055c1ddb9a6ccb7755aadd3429b81415502604d348b", func := "marlstone/marlstonelaw04.BlockParses", spec := "blockParses", inPlace := ["internal/bytealg.abigen_runtime_cmpstring"], unfollowed := true, recurses := true, apart := false }
def BlockParsesSaid : Prop := blockParsesRow.holds Try.pinned (OpenSpec.ofChange blockParsesSpec)

/-- ITS FALSE NEIGHBOUR: 'it returns false'. Refute it at one input. -/
def blockParsesWrong : ChangeSpec := { name := "blockParses", fn := fun _ => fun
  | [d1, d2] => { results := [.lit (.bool false)], args := [d1, d2] }
  | _ => none }
def BlockParsesWrongFalsely : Prop := blockParsesRow.holds Try.pinned (OpenSpec.ofChange blockParsesWrong)

/-- 'marlstonelaw03.EntryBounds': WHATEVER THE INPUT: true; the input reads as it did. -/
def entryBoundsSpec : ChangeSpec := { name := "entryBounds", fn := fun _ => fun
  | [d1, d2, d3, d4] => { results := [.lit (.bool true)], args := [d1, d2, d3, d4] }
  | _ => none }
def entryBoundsRow : OpenClaim := { program := "ytopmpooglnfalaa", sum := "c2cf19345760ecb0c89ab055c1ddb9a6ccb7755aadd3429b81415502604d348b", func := "marlstone/marlstonelaw03.EntryBounds", spec := "entryBounds", unfollowed := true, recurses := true, apart := false }
def EntryBoundsSaid : Prop := entryBoundsRow.holds Try.pinned (OpenSpec.ofChange entryBoundsSpec)

/-- ITS FALSE NEIGHBOUR: 'it returns false'. Refute it at one input. -/
def entryBoundsWrong : ChangeSpec := { name := "entryBounds", fn := fun _ => fun
  | [d1, d2, d3, d4] => { results := [.lit (.bool false)], args := [d1, d2, d3, d4] }
  | _ => none }
def EntryBoundsWrongFalsely : Prop := entryBoundsRow.holds Try.pinned (OpenSpec.ofChange entryBoundsWrong)

/-- 'marlstonelaw03.EntryFinds': WHATEVER THE INPUT: true; the input reads as it did. -/
def entryFindsSpec : ChangeSpec := { name := "entryFinds", fn := fun _ => fun
  | [d1, d2] => { results := [.lit (.bool true)], args := [d1, d2] }
  | _ => none }
def entryFindsRow : OpenClaim := { program := "ytopmpooglnfalaa", sum := "c2cf19345760ecb0c89ab055c1ddb9a6ccb7755aadd3429b81415502604d348b", func := "marlstone/marlstonelaw03.EntryFinds", spec := "entryFinds", unfollowed := true, recurses := true, apart := false }
def EntryFindsSaid : Prop := entryFindsRow.holds Try.pinned (OpenSpec.ofChange entryFindsSpec)

/-- ITS FALSE NEIGHBOUR: 'it returns false'. Refute it at one input. -/
def entryFindsWrong : ChangeSpec := { name := "entryFinds", fn := fun _ => fun
  | [d1, d2] => { results := [.lit (.bool false)], args := [d1, d2] }
  | _ => none }
def EntryFindsWrongFalsely : Prop := entryFindsRow.holds Try.pinned (OpenSpec.ofChange entryFindsWrong)

/-- 'marlstonelaw03.EntryFolds': WHATEVER THE INPUT: true; the input reads as it did. -/
def entryFoldsSpec : ChangeSpec := { name := "entryFolds", fn := fun _ => fun
  | [d1, d2] => { results := [.lit (.bool true)], args := [d1, d2] }
  | _ => none }
def entryFoldsRow : OpenClaim := { program := "ytopmpooglnfalaa", sum := "c2cf19345760ecb0c89ab055c1ddb9a6ccb7755aadd3429b81415502604d348b", func := "marlstone/marlstonelaw03.EntryFolds", spec := "entryFolds", unfollowed := true, recurses := true, apart := false }
def EntryFoldsSaid : Prop := entryFoldsRow.holds Try.pinned (OpenSpec.ofChange entryFoldsSpec)

/-- ITS FALSE NEIGHBOUR: 'it returns false'. Refute it at one input. -/
def entryFoldsWrong : ChangeSpec := { name := "entryFolds", fn := fun _ => fun
  | [d1, d2] => { results := [.lit (.bool false)], args := [d1, d2] }
  | _ => none }
def EntryFoldsWrongFalsely : Prop := entryFoldsRow.holds Try.pinned (OpenSpec.ofChange entryFoldsWrong)

/-- 'marlstonelaw03.EntryLists': WHATEVER THE INPUT: true; the input reads as it did. -/
def entryListsSpec : ChangeSpec := { name := "entryLists", fn := fun _ => fun
  | [d1, d2] => { results := [.lit (.bool true)], args := [d1, d2] }
  | _ => none }
def entryListsRow : OpenClaim := { program := "ytopmpooglnfalaa", sum := "c2cf19345760ecb0c89ab055c1ddb9a6ccb7755aadd3429b81415502604d348b", func := "marlstone/marlstonelaw03.EntryLists", spec := "entryLists", unfollowed := true, recurses := true, apart := false }
def EntryListsSaid : Prop := entryListsRow.holds Try.pinned (OpenSpec.ofChange entryListsSpec)

/-- ITS FALSE NEIGHBOUR: 'it returns false'. Refute it at one input. -/
def entryListsWrong : ChangeSpec := { name := "entryLists", fn := fun _ => fun
  | [d1, d2] => { results := [.lit (.bool false)], args := [d1, d2] }
  | _ => none }
def EntryListsWrongFalsely : Prop := entryListsRow.holds Try.pinned (OpenSpec.ofChange entryListsWrong)

/-- 'marlstonelaw03.EntryMaps': WHATEVER THE INPUT: true; the input reads as it did. -/
def entryMapsSpec : ChangeSpec := { name := "entryMaps", fn := fun _ => fun
  | [d1, d2] => { results := [.lit (.bool true)], args := [d1, d2] }
  | _ => none }
def entryMapsRow : OpenClaim := { program := "ytopmpooglnfalaa", sum := "c2cf19345760ecb0c89ab055c1ddb9a6ccb7755aadd3429b81415502604d348b", func := "marlstone/marlstonelaw03.EntryMaps", spec := "entryMaps", unfollowed := true, recurses := true, apart := false }
def EntryMapsSaid : Prop := entryMapsRow.holds Try.pinned (OpenSpec.ofChange entryMapsSpec)

/-- ITS FALSE NEIGHBOUR: 'it returns false'. Refute it at one input. -/
def entryMapsWrong : ChangeSpec := { name := "entryMaps", fn := fun _ => fun
  | [d1, d2] => { results := [.lit (.bool false)], args := [d1, d2] }
  | _ => none }
def EntryMapsWrongFalsely : Prop := entryMapsRow.holds Try.pinned (OpenSpec.ofChange entryMapsWrong)

/-- 'marlstonelaw03.EntryTells': WHATEVER THE INPUT: true; the input reads as it did. -/
def entryTellsSpec : ChangeSpec := { name := "entryTells", fn := fun _ => fun
  | [d1, d2] => { results := [.lit (.bool true)], args := [d1, d2] }
  | _ => none }
def entryTellsRow : OpenClaim := { program := "ytopmpooglnfalaa", sum := "c2cf19345760ecb0c89ab055c1ddb9a6ccb7755aadd3429b81415502604d348b", func := "marlstone/marlstonelaw03.EntryTells", spec := "entryTells", unfollowed := true, recurses := true, apart := false }
def EntryTellsSaid : Prop := entryTellsRow.holds Try.pinned (OpenSpec.ofChange entryTellsSpec)

/-- ITS FALSE NEIGHBOUR: 'it returns false'. Refute it at one input. -/
def entryTellsWrong : ChangeSpec := { name := "entryTells", fn := fun _ => fun
  | [d1, d2] => { results := [.lit (.bool false)], args := [d1, d2] }
  | _ => none }
def EntryTellsWrongFalsely : Prop := entryTellsRow.holds Try.pinned (OpenSpec.ofChange entryTellsWrong)

/-- 'marlstonelaw03.EntryBack': WHATEVER THE INPUT: true; the input reads as it did. -/
def entryBackSpec : ChangeSpec := { name := "entryBack", fn := fun _ => fun
  | [d1, d2] => { results := [.lit (.bool true)], args := [d1, d2] }
  | _ => none }
def entryBackRow : OpenClaim := { program := "ytopmpooglnfalaa", sum := "c2cf19345760ecb0c89ab055c1ddb9a6ccb7755aadd3429b81415502604d348b", func := "marlstone/marlstonelaw03.EntryBack", spec := "entryBack", unfollowed := true, recurses := true, apart := false }
def EntryBackSaid : Prop := entryBackRow.holds Try.pinned (OpenSpec.ofChange entryBackSpec)

/-- ITS FALSE NEIGHBOUR: 'it returns false'. Refute it at one input. -/
def entryBackWrong : ChangeSpec := { name := "entryBack", fn := fun _ => fun
  | [d1, d2] => { results := [.lit (.bool false)], args := [d1, d2] }
  | _ => none }
def EntryBackWrongFalsely : Prop := entryBackRow.holds Try.pinned (OpenSpec.ofChange entryBackWrong)

/-- 'marlstonelaw03.EntryRow': WHATEVER THE INPUT: true; the input reads as it did. -/
def entryRowSpec : ChangeSpec := { name := "entryRow", fn := fun _ => fun
  | [d] => { results := [.lit (.bool true)], args := [d] }
  | _ => none }
def entryRowRow : OpenClaim := { program := "ytopmpooglnfalaa", sum := "c2cf19345760ecb0c89ab055c1ddb9a6ccb7755aadd3429b81415502604d348b", func := "marlstone/marlstonelaw03.EntryRow", spec := "entryRow", unfollowed := true, recurses := true, apart := false }
def EntryRowSaid : Prop := entryRowRow.holds Try.pinned (OpenSpec.ofChange entryRowSpec)

/-- ITS FALSE NEIGHBOUR: 'it returns false'. Refute it at one input. -/
def entryRowWrong : ChangeSpec := { name := "entryRow", fn := fun _ => fun
  | [d] => { results := [.lit (.bool false)], args := [d] }
  | _ => none }
def EntryRowWrongFalsely : Prop := entryRowRow.holds Try.pinned (OpenSpec.ofChange entryRowWrong)

/-- 'marlstonelaw04.BlockSmall': WHATEVER THE INPUT: true; the input reads as it did. -/
def blockSmallSpec : ChangeSpec := { name := "blockSmall", fn := fun _ => fun
  | [d] => { results := [.lit (.bool true)], args := [d] }
  | _ => none }
def blockSmallRow : OpenClaim := { program := "ytopmpooglnfalaa", sum := "c2cf19345760ecb0c89ab055c1ddb9a6ccb7755aadd3429b81415502604d348b", func := "marlstone/marlstonelaw04.BlockSmall", spec := "blockSmall", unfollowed := true, recurses := true, apart := false }
def BlockSmallSaid : Prop := blockSmallRow.holds Try.pinned (OpenSpec.ofChange blockSmallSpec)

/-- ITS FALSE NEIGHBOUR: 'it returns false'. Refute it at one input. -/
def blockSmallWrong : ChangeSpec := { name := "blockSmall", fn := fun _ => fun
  | [d] => { results := [.lit (.bool false)], args := [d] }
  | _ => none }
def BlockSmallWrongFalsely : Prop := blockSmallRow.holds Try.pinned (OpenSpec.ofChange blockSmallWrong)

/-- 'marlstonelaw04.BlockBack': WHATEVER THE INPUT: true; the input reads as it did. -/
def blockBackSpec : ChangeSpec := { name := "blockBack", fn := fun _ => fun
  | [d1, d2] => { results := [.lit (.bool true)], args := [d1, d2] }
  | _ => none }
def blockBackRow : OpenClaim := { program := "ytopmpooglnfalaa", sum := "c2cf19345760ecb0c89ab055c1ddb9a6ccb7755aadd3429b81415502604d348b", func := "marlstone/marlstonelaw04.BlockBack", spec := "blockBack", inPlace := ["internal/bytealg.abigen_runtime_cmpstring"], unfollowed := true, recurses := true, apart := false }
def BlockBackSaid : Prop := blockBackRow.holds Try.pinned (OpenSpec.ofChange blockBackSpec)

/-- ITS FALSE NEIGHBOUR: 'it returns false'. Refute it at one input. -/
def blockBackWrong : ChangeSpec := { name := "blockBack", fn := fun _ => fun
  | [d1, d2] => { results := [.lit (.bool false)], args := [d1, d2] }
  | _ => none }
def BlockBackWrongFalsely : Prop := blockBackRow.holds Try.pinned (OpenSpec.ofChange blockBackWrong)

/-- 'marlstonelaw04.BlockNext': WHATEVER THE INPUT: true; the input reads as it did. -/
def blockNextSpec : ChangeSpec := { name := "blockNext", fn := fun _ => fun
  | [d] => { results := [.lit (.bool true)], args := [d] }
  | _ => none }
def blockNextRow : OpenClaim := { program := "ytopmpooglnfalaa", sum := "c2cf19345760ecb0c89ab055c1ddb9a6ccb7755aadd3429b81415502604d348b", func := "marlstone/marlstonelaw04.BlockNext", spec := "blockNext", inPlace := ["internal/bytealg.abigen_runtime_cmpstring"], unfollowed := true, recurses := true, apart := false }
def BlockNextSaid : Prop := blockNextRow.holds Try.pinned (OpenSpec.ofChange blockNextSpec)

/-- ITS FALSE NEIGHBOUR: 'it returns false'. Refute it at one input. -/
def blockNextWrong : ChangeSpec := { name := "blockNext", fn := fun _ => fun
  | [d] => { results := [.lit (.bool false)], args := [d] }
  | _ => none }
def BlockNextWrongFalsely : Prop := blockNextRow.holds Try.pinned (OpenSpec.ofChange blockNextWrong)

/- THE SECOND FORM. 'bulk': how many values and letters a reading holds, each counted each time it is reached (what is shared counts as often as it is met; a slice's spare places count too). A statement '..UptoSaid' is the law's where the arguments, and the package variables that the reading takes, are together of bulk at most 1048576: NARROWER than '..Said'. Prove '..Said' where nothing that the law and all that it calls make is longer than what came in: it says more and counts as full. Else prove '..UptoSaid'. A law counts once. -/
mutual
def uptoBulk {H : Type} : DataW H → Nat
  | .lit (.string bytes) => bytes.length + 1
  | .lit _ => 1
  | .nil => 1
  | .ptr d => uptoBulk d + 1
  | .slice elems spare => uptoBulkAll elems + uptoBulkAll spare + 1
  | .agg parts => uptoBulkAll parts + 1
  | .iface _ d => uptoBulk d + 1
  | .map entries => uptoBulkEntries entries + 1
  | .held _ => 1
def uptoBulkAll {H : Type} : List (DataW H) → Nat
  | [] => 0
  | d :: r => uptoBulk d + uptoBulkAll r
def uptoBulkEntries {H : Type} : List (Lit × DataW H) → Nat
  | [] => 0
  | x :: r => uptoBulkEntry x + uptoBulkEntries r
def uptoBulkEntry {H : Type} : Lit × DataW H → Nat
  | (.string bytes, d) => bytes.length + uptoBulk d + 1
  | (_, d) => uptoBulk d + 1
 end
def uptoSmall : (H : Type) → List (DataW H) → Bool := fun _ ds => decide (uptoBulkAll ds ≤ 1048576)
def OpenSpec.upto (s : _root_.Go.ChangeSpec) : _root_.Go.OpenSpec := { _root_.Go.OpenSpec.ofChange s with cond := some uptoSmall }

/-- 'marlstonelaw04.BlockBytes', WHERE WHAT IT READS IS OF BULK AT MOST 1048576: true; the input reads as it did. -/
def blockBytesUptoRow : OpenClaim := { program := "ytopmpooglnfalaa", sum := "c2cf19345760ecb0c89ab055c1ddb9a6ccb7755aadd3429b81415502604d348b", func := "marlstone/marlstonelaw04.BlockBytes", spec := "blockBytes", unfollowed := true, recurses := true, apart := false, narrowed := true }
def BlockBytesUptoSaid : Prop := blockBytesUptoRow.holds Try.pinned (OpenSpec.upto blockBytesSpec)

/-- 'marlstonelaw04.BlockFits', WHERE WHAT IT READS IS OF BULK AT MOST 1048576: true; the input reads as it did. -/
def blockFitsUptoRow : OpenClaim := { program := "ytopmpooglnfalaa", sum := "c2cf19345760ecb0c89ab055c1ddb9a6ccb7755aadd3429b81415502604d348b", func := "marlstone/marlstonelaw04.BlockFits", spec := "blockFits", unfollowed := true, recurses := true, apart := false, narrowed := true }
def BlockFitsUptoSaid : Prop := blockFitsUptoRow.holds Try.pinned (OpenSpec.upto blockFitsSpec)

/-- 'marlstonelaw04.BlockOnce', WHERE WHAT IT READS IS OF BULK AT MOST 1048576: true; the input reads as it did. -/
def blockOnceUptoRow : OpenClaim := { program := "ytopmpooglnfalaa", sum := "c2cf19345760ecb0c89ab055c1ddb9a6ccb7755aadd3429b81415502604d348b", func := "marlstone/marlstonelaw04.BlockOnce", spec := "blockOnce", unfollowed := true, recurses := true, apart := false, narrowed := true }
def BlockOnceUptoSaid : Prop := blockOnceUptoRow.holds Try.pinned (OpenSpec.upto blockOnceSpec)

/-- 'marlstonelaw04.BlockParses', WHERE WHAT IT READS IS OF BULK AT MOST 1048576: true; the input reads as it did. -/
def blockParsesUptoRow : OpenClaim := { program := "ytopmpooglnfalaa", sum := "c2cf19345760ecb0c89ab055c1ddb9a6ccb7755aadd3429b81415502604d348b", func := "marlstone/marlstonelaw04.BlockParses", spec := "blockParses", inPlace := ["internal/bytealg.abigen_runtime_cmpstring"], unfollowed := true, recurses := true, apart := false, narrowed := true }
def BlockParsesUptoSaid : Prop := blockParsesUptoRow.holds Try.pinned (OpenSpec.upto blockParsesSpec)

/-- 'marlstonelaw03.EntryBounds', WHERE WHAT IT READS IS OF BULK AT MOST 1048576: true; the input reads as it did. -/
def entryBoundsUptoRow : OpenClaim := { program := "ytopmpooglnfalaa", sum := "c2cf19345760ecb0c89ab055c1ddb9a6ccb7755aadd3429b81415502604d348b", func := "marlstone/marlstonelaw03.EntryBounds", spec := "entryBounds", unfollowed := true, recurses := true, apart := false, narrowed := true }
def EntryBoundsUptoSaid : Prop := entryBoundsUptoRow.holds Try.pinned (OpenSpec.upto entryBoundsSpec)

/-- 'marlstonelaw03.EntryFinds', WHERE WHAT IT READS IS OF BULK AT MOST 1048576: true; the input reads as it did. -/
def entryFindsUptoRow : OpenClaim := { program := "ytopmpooglnfalaa", sum := "c2cf19345760ecb0c89ab055c1ddb9a6ccb7755aadd3429b81415502604d348b", func := "marlstone/marlstonelaw03.EntryFinds", spec := "entryFinds", unfollowed := true, recurses := true, apart := false, narrowed := true }
def EntryFindsUptoSaid : Prop := entryFindsUptoRow.holds Try.pinned (OpenSpec.upto entryFindsSpec)

/-- 'marlstonelaw03.EntryFolds', WHERE WHAT IT READS IS OF BULK AT MOST 1048576: true; the input reads as it did. -/
def entryFoldsUptoRow : OpenClaim := { program := "ytopmpooglnfalaa", sum := "c2cf19345760ecb0c89ab055c1ddb9a6ccb7755aadd3429b81415502604d348b", func := "marlstone/marlstonelaw03.EntryFolds", spec := "entryFolds", unfollowed := true, recurses := true, apart := false, narrowed := true }
def EntryFoldsUptoSaid : Prop := entryFoldsUptoRow.holds Try.pinned (OpenSpec.upto entryFoldsSpec)

/-- 'marlstonelaw03.EntryLists', WHERE WHAT IT READS IS OF BULK AT MOST 1048576: true; the input reads as it did. -/
def entryListsUptoRow : OpenClaim := { program := "ytopmpooglnfalaa", sum := "c2cf19345760ecb0c89ab055c1ddb9a6ccb7755aadd3429b81415502604d348b", func := "marlstone/marlstonelaw03.EntryLists", spec := "entryLists", unfollowed := true, recurses := true, apart := false, narrowed := true }
def EntryListsUptoSaid : Prop := entryListsUptoRow.holds Try.pinned (OpenSpec.upto entryListsSpec)

/-- 'marlstonelaw03.EntryMaps', WHERE WHAT IT READS IS OF BULK AT MOST 1048576: true; the input reads as it did. -/
def entryMapsUptoRow : OpenClaim := { program := "ytopmpooglnfalaa", sum := "c2cf19345760ecb0c89ab055c1ddb9a6ccb7755aadd3429b81415502604d348b", func := "marlstone/marlstonelaw03.EntryMaps", spec := "entryMaps", unfollowed := true, recurses := true, apart := false, narrowed := true }
def EntryMapsUptoSaid : Prop := entryMapsUptoRow.holds Try.pinned (OpenSpec.upto entryMapsSpec)

/-- 'marlstonelaw03.EntryTells', WHERE WHAT IT READS IS OF BULK AT MOST 1048576: true; the input reads as it did. -/
def entryTellsUptoRow : OpenClaim := { program := "ytopmpooglnfalaa", sum := "c2cf19345760ecb0c89ab055c1ddb9a6ccb7755aadd3429b81415502604d348b", func := "marlstone/marlstonelaw03.EntryTells", spec := "entryTells", unfollowed := true, recurses := true, apart := false, narrowed := true }
def EntryTellsUptoSaid : Prop := entryTellsUptoRow.holds Try.pinned (OpenSpec.upto entryTellsSpec)

/-- 'marlstonelaw03.EntryBack', WHERE WHAT IT READS IS OF BULK AT MOST 1048576: true; the input reads as it did. -/
def entryBackUptoRow : OpenClaim := { program := "ytopmpooglnfalaa", sum := "c2cf19345760ecb0c89ab055c1ddb9a6ccb7755aadd3429b81415502604d348b", func := "marlstone/marlstonelaw03.EntryBack", spec := "entryBack", unfollowed := true, recurses := true, apart := false, narrowed := true }
def EntryBackUptoSaid : Prop := entryBackUptoRow.holds Try.pinned (OpenSpec.upto entryBackSpec)

/-- 'marlstonelaw03.EntryRow', WHERE WHAT IT READS IS OF BULK AT MOST 1048576: true; the input reads as it did. -/
def entryRowUptoRow : OpenClaim := { program := "ytopmpooglnfalaa", sum := "c2cf19345760ecb0c89ab055c1ddb9a6ccb7755aadd3429b81415502604d348b", func := "marlstone/marlstonelaw03.EntryRow", spec := "entryRow", unfollowed := true, recurses := true, apart := false, narrowed := true }
def EntryRowUptoSaid : Prop := entryRowUptoRow.holds Try.pinned (OpenSpec.upto entryRowSpec)

/-- 'marlstonelaw04.BlockSmall', WHERE WHAT IT READS IS OF BULK AT MOST 1048576: true; the input reads as it did. -/
def blockSmallUptoRow : OpenClaim := { program := "ytopmpooglnfalaa", sum := "c2cf19345760ecb0c89ab055c1ddb9a6ccb7755aadd3429b81415502604d348b", func := "marlstone/marlstonelaw04.BlockSmall", spec := "blockSmall", unfollowed := true, recurses := true, apart := false, narrowed := true }
def BlockSmallUptoSaid : Prop := blockSmallUptoRow.holds Try.pinned (OpenSpec.upto blockSmallSpec)

/-- 'marlstonelaw04.BlockBack', WHERE WHAT IT READS IS OF BULK AT MOST 1048576: true; the input reads as it did. -/
def blockBackUptoRow : OpenClaim := { program := "ytopmpooglnfalaa", sum := "c2cf19345760ecb0c89ab055c1ddb9a6ccb7755aadd3429b81415502604d348b", func := "marlstone/marlstonelaw04.BlockBack", spec := "blockBack", inPlace := ["internal/bytealg.abigen_runtime_cmpstring"], unfollowed := true, recurses := true, apart := false, narrowed := true }
def BlockBackUptoSaid : Prop := blockBackUptoRow.holds Try.pinned (OpenSpec.upto blockBackSpec)

/-- 'marlstonelaw04.BlockNext', WHERE WHAT IT READS IS OF BULK AT MOST 1048576: true; the input reads as it did. -/
def blockNextUptoRow : OpenClaim := { program := "ytopmpooglnfalaa", sum := "c2cf19345760ecb0c89ab055c1ddb9a6ccb7755aadd3429b81415502604d348b", func := "marlstone/marlstonelaw04.BlockNext", spec := "blockNext", inPlace := ["internal/bytealg.abigen_runtime_cmpstring"], unfollowed := true, recurses := true, apart := false, narrowed := true }
def BlockNextUptoSaid : Prop := blockNextUptoRow.holds Try.pinned (OpenSpec.upto blockNextSpec)

end Rows
end Go.Proofs.Ytopmpooglnfalaa
