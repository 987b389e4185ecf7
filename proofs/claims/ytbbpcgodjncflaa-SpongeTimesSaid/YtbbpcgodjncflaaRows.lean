/-
  No cell of these rows narrows 'for every input' (looked for: loops, veiled, ifaces, maps, wideKeys, modest, calm, conditions, laid).
  DERIVED. THE GIVEN ROWS OF THIS SEAT. 12 by the template 'for every input the law returns true; each argument reads behind the call as it read before'; 0 by the template 'total and deterministic' (their statements: YtbbpcgodjncflaaTotals.lean).
  GIVEN WITH THE SEED: the statements are not yours to turn. If you find one false, say at which input.
  Laid BY PROGRAM, IN A SANDBOX (cutbox-rows.mjs): the forced cells as the released guide's own fill.sh prints them over the translation 3bb3224ea9e64db8… (all of the seat's roots in one cut). By AI agents, Wed Nov 11 2026. No macro, syntax, notation, axiom, sorry.
-/
import Derived.Test.YtbbpcgodjncflaaChecked
import GoSem.Claim
import GoSem.ClaimJoined
import GoSem.ClaimMapViews
import Derived.JoinedTies
import Derived.KernelRfl
namespace Go.Proofs.Ytbbpcgodjncflaa
/- THE CELL 'sum', in the pinned program and in every row, IS THE sha256 OF THE DUMP (.gsa) THAT YtbbpcgodjncflaaProg.lean LOADS. Nothing in Lean hashes anything: it is a label: what it is worth is what the hold of that sum in a sandbox is worth. -/
noncomputable def Try.pinned : Pinned := { name := "ytbbpcgodjncflaa", sum := "3bb3224ea9e64db891201407e129b64f83e565da40a0485f390a2314fa4ed1c8", checked := Try.checked }
namespace Rows
def none {H : Type} : Left H := { results := [], args := [] }

/-- 'sentinellaw3.SpongeMixes': WHATEVER THE INPUT: true; the input reads as it did. -/
def spongeMixesSpec : ChangeSpec := { name := "spongeMixes", fn := fun _ => fun
  | [d] => { results := [.lit (.bool true)], args := [d] }
  | _ => none }
def spongeMixesRow : OpenClaim := { program := "ytbbpcgodjncflaa", sum := "3bb3224ea9e64db891201407e129b64f83e565da40a0485f390a2314fa4ed1c8", func := "sentinel/sentinellaw3.SpongeMixes", spec := "spongeMixes", unfollowed := true, recurses := true, apart := false }
def SpongeMixesSaid : Prop := spongeMixesRow.holds Try.pinned (OpenSpec.ofChange spongeMixesSpec)

/-- ITS FALSE NEIGHBOUR: 'it returns false'. Refute it at one input. -/
def spongeMixesWrong : ChangeSpec := { name := "spongeMixes", fn := fun _ => fun
  | [d] => { results := [.lit (.bool false)], args := [d] }
  | _ => none }
def SpongeMixesWrongFalsely : Prop := spongeMixesRow.holds Try.pinned (OpenSpec.ofChange spongeMixesWrong)

/-- 'sentinellaw3.SpongeUndone': WHATEVER THE INPUT: true; the input reads as it did. -/
def spongeUndoneSpec : ChangeSpec := { name := "spongeUndone", fn := fun _ => fun
  | [d] => { results := [.lit (.bool true)], args := [d] }
  | _ => none }
def spongeUndoneRow : OpenClaim := { program := "ytbbpcgodjncflaa", sum := "3bb3224ea9e64db891201407e129b64f83e565da40a0485f390a2314fa4ed1c8", func := "sentinel/sentinellaw3.SpongeUndone", spec := "spongeUndone", unfollowed := true, recurses := true, apart := false }
def SpongeUndoneSaid : Prop := spongeUndoneRow.holds Try.pinned (OpenSpec.ofChange spongeUndoneSpec)

/-- ITS FALSE NEIGHBOUR: 'it returns false'. Refute it at one input. -/
def spongeUndoneWrong : ChangeSpec := { name := "spongeUndone", fn := fun _ => fun
  | [d] => { results := [.lit (.bool false)], args := [d] }
  | _ => none }
def SpongeUndoneWrongFalsely : Prop := spongeUndoneRow.holds Try.pinned (OpenSpec.ofChange spongeUndoneWrong)

/-- 'sentinellaw3.SpongeSums': WHATEVER THE INPUT: true; the input reads as it did. -/
def spongeSumsSpec : ChangeSpec := { name := "spongeSums", fn := fun _ => fun
  | [d1, d2, d3] => { results := [.lit (.bool true)], args := [d1, d2, d3] }
  | _ => none }
def spongeSumsRow : OpenClaim := { program := "ytbbpcgodjncflaa", sum := "3bb3224ea9e64db891201407e129b64f83e565da40a0485f390a2314fa4ed1c8", func := "sentinel/sentinellaw3.SpongeSums", spec := "spongeSums", unfollowed := true, recurses := true, apart := false }
def SpongeSumsSaid : Prop := spongeSumsRow.holds Try.pinned (OpenSpec.ofChange spongeSumsSpec)

/-- ITS FALSE NEIGHBOUR: 'it returns false'. Refute it at one input. -/
def spongeSumsWrong : ChangeSpec := { name := "spongeSums", fn := fun _ => fun
  | [d1, d2, d3] => { results := [.lit (.bool false)], args := [d1, d2, d3] }
  | _ => none }
def SpongeSumsWrongFalsely : Prop := spongeSumsRow.holds Try.pinned (OpenSpec.ofChange spongeSumsWrong)

/-- 'sentinellaw3.SpongeMacs': WHATEVER THE INPUT: true; the input reads as it did. -/
def spongeMacsSpec : ChangeSpec := { name := "spongeMacs", fn := fun _ => fun
  | [d1, d2, d3, d4, d5] => { results := [.lit (.bool true)], args := [d1, d2, d3, d4, d5] }
  | _ => none }
def spongeMacsRow : OpenClaim := { program := "ytbbpcgodjncflaa", sum := "3bb3224ea9e64db891201407e129b64f83e565da40a0485f390a2314fa4ed1c8", func := "sentinel/sentinellaw3.SpongeMacs", spec := "spongeMacs", unfollowed := true, recurses := true, apart := false }
def SpongeMacsSaid : Prop := spongeMacsRow.holds Try.pinned (OpenSpec.ofChange spongeMacsSpec)

/-- ITS FALSE NEIGHBOUR: 'it returns false'. Refute it at one input. -/
def spongeMacsWrong : ChangeSpec := { name := "spongeMacs", fn := fun _ => fun
  | [d1, d2, d3, d4, d5] => { results := [.lit (.bool false)], args := [d1, d2, d3, d4, d5] }
  | _ => none }
def SpongeMacsWrongFalsely : Prop := spongeMacsRow.holds Try.pinned (OpenSpec.ofChange spongeMacsWrong)

/-- 'sentinellaw3.SpongeSame': WHATEVER THE INPUT: true; the input reads as it did. -/
def spongeSameSpec : ChangeSpec := { name := "spongeSame", fn := fun _ => fun
  | [d1, d2, d3, d4] => { results := [.lit (.bool true)], args := [d1, d2, d3, d4] }
  | _ => none }
def spongeSameRow : OpenClaim := { program := "ytbbpcgodjncflaa", sum := "3bb3224ea9e64db891201407e129b64f83e565da40a0485f390a2314fa4ed1c8", func := "sentinel/sentinellaw3.SpongeSame", spec := "spongeSame", unfollowed := true, recurses := true, apart := false }
def SpongeSameSaid : Prop := spongeSameRow.holds Try.pinned (OpenSpec.ofChange spongeSameSpec)

/-- ITS FALSE NEIGHBOUR: 'it returns false'. Refute it at one input. -/
def spongeSameWrong : ChangeSpec := { name := "spongeSame", fn := fun _ => fun
  | [d1, d2, d3, d4] => { results := [.lit (.bool false)], args := [d1, d2, d3, d4] }
  | _ => none }
def SpongeSameWrongFalsely : Prop := spongeSameRow.holds Try.pinned (OpenSpec.ofChange spongeSameWrong)

/-- 'sentinellaw3.SpongeOwn': WHATEVER THE INPUT: true; the input reads as it did. -/
def spongeOwnSpec : ChangeSpec := { name := "spongeOwn", fn := fun _ => fun
  | [d1, d2, d3] => { results := [.lit (.bool true)], args := [d1, d2, d3] }
  | _ => none }
def spongeOwnRow : OpenClaim := { program := "ytbbpcgodjncflaa", sum := "3bb3224ea9e64db891201407e129b64f83e565da40a0485f390a2314fa4ed1c8", func := "sentinel/sentinellaw3.SpongeOwn", spec := "spongeOwn", unfollowed := true, recurses := true, apart := false }
def SpongeOwnSaid : Prop := spongeOwnRow.holds Try.pinned (OpenSpec.ofChange spongeOwnSpec)

/-- ITS FALSE NEIGHBOUR: 'it returns false'. Refute it at one input. -/
def spongeOwnWrong : ChangeSpec := { name := "spongeOwn", fn := fun _ => fun
  | [d1, d2, d3] => { results := [.lit (.bool false)], args := [d1, d2, d3] }
  | _ => none }
def SpongeOwnWrongFalsely : Prop := spongeOwnRow.holds Try.pinned (OpenSpec.ofChange spongeOwnWrong)

/-- 'sentinellaw3.SpongeParts': WHATEVER THE INPUT: true; the input reads as it did. -/
def spongePartsSpec : ChangeSpec := { name := "spongeParts", fn := fun _ => fun
  | [d1, d2, d3, d4] => { results := [.lit (.bool true)], args := [d1, d2, d3, d4] }
  | _ => none }
def spongePartsRow : OpenClaim := { program := "ytbbpcgodjncflaa", sum := "3bb3224ea9e64db891201407e129b64f83e565da40a0485f390a2314fa4ed1c8", func := "sentinel/sentinellaw3.SpongeParts", spec := "spongeParts", unfollowed := true, recurses := true, apart := false }
def SpongePartsSaid : Prop := spongePartsRow.holds Try.pinned (OpenSpec.ofChange spongePartsSpec)

/-- ITS FALSE NEIGHBOUR: 'it returns false'. Refute it at one input. -/
def spongePartsWrong : ChangeSpec := { name := "spongeParts", fn := fun _ => fun
  | [d1, d2, d3, d4] => { results := [.lit (.bool false)], args := [d1, d2, d3, d4] }
  | _ => none }
def SpongePartsWrongFalsely : Prop := spongePartsRow.holds Try.pinned (OpenSpec.ofChange spongePartsWrong)

/-- 'sentinellaw3.SpongeBlocks': WHATEVER THE INPUT: true; the input reads as it did. -/
def spongeBlocksSpec : ChangeSpec := { name := "spongeBlocks", fn := fun _ => fun
  | [d1, d2, d3] => { results := [.lit (.bool true)], args := [d1, d2, d3] }
  | _ => none }
def spongeBlocksRow : OpenClaim := { program := "ytbbpcgodjncflaa", sum := "3bb3224ea9e64db891201407e129b64f83e565da40a0485f390a2314fa4ed1c8", func := "sentinel/sentinellaw3.SpongeBlocks", spec := "spongeBlocks", unfollowed := true, recurses := true, apart := false }
def SpongeBlocksSaid : Prop := spongeBlocksRow.holds Try.pinned (OpenSpec.ofChange spongeBlocksSpec)

/-- ITS FALSE NEIGHBOUR: 'it returns false'. Refute it at one input. -/
def spongeBlocksWrong : ChangeSpec := { name := "spongeBlocks", fn := fun _ => fun
  | [d1, d2, d3] => { results := [.lit (.bool false)], args := [d1, d2, d3] }
  | _ => none }
def SpongeBlocksWrongFalsely : Prop := spongeBlocksRow.holds Try.pinned (OpenSpec.ofChange spongeBlocksWrong)

/-- 'sentinellaw3.SpongeStreams': WHATEVER THE INPUT: true; the input reads as it did. -/
def spongeStreamsSpec : ChangeSpec := { name := "spongeStreams", fn := fun _ => fun
  | [d1, d2, d3] => { results := [.lit (.bool true)], args := [d1, d2, d3] }
  | _ => none }
def spongeStreamsRow : OpenClaim := { program := "ytbbpcgodjncflaa", sum := "3bb3224ea9e64db891201407e129b64f83e565da40a0485f390a2314fa4ed1c8", func := "sentinel/sentinellaw3.SpongeStreams", spec := "spongeStreams", unfollowed := true, recurses := true, apart := false }
def SpongeStreamsSaid : Prop := spongeStreamsRow.holds Try.pinned (OpenSpec.ofChange spongeStreamsSpec)

/-- ITS FALSE NEIGHBOUR: 'it returns false'. Refute it at one input. -/
def spongeStreamsWrong : ChangeSpec := { name := "spongeStreams", fn := fun _ => fun
  | [d1, d2, d3] => { results := [.lit (.bool false)], args := [d1, d2, d3] }
  | _ => none }
def SpongeStreamsWrongFalsely : Prop := spongeStreamsRow.holds Try.pinned (OpenSpec.ofChange spongeStreamsWrong)

/-- 'sentinellaw3.SpongeKeys': WHATEVER THE INPUT: true; the input reads as it did. -/
def spongeKeysSpec : ChangeSpec := { name := "spongeKeys", fn := fun _ => fun
  | [d1, d2, d3] => { results := [.lit (.bool true)], args := [d1, d2, d3] }
  | _ => none }
def spongeKeysRow : OpenClaim := { program := "ytbbpcgodjncflaa", sum := "3bb3224ea9e64db891201407e129b64f83e565da40a0485f390a2314fa4ed1c8", func := "sentinel/sentinellaw3.SpongeKeys", spec := "spongeKeys", unfollowed := true, recurses := true, apart := false }
def SpongeKeysSaid : Prop := spongeKeysRow.holds Try.pinned (OpenSpec.ofChange spongeKeysSpec)

/-- ITS FALSE NEIGHBOUR: 'it returns false'. Refute it at one input. -/
def spongeKeysWrong : ChangeSpec := { name := "spongeKeys", fn := fun _ => fun
  | [d1, d2, d3] => { results := [.lit (.bool false)], args := [d1, d2, d3] }
  | _ => none }
def SpongeKeysWrongFalsely : Prop := spongeKeysRow.holds Try.pinned (OpenSpec.ofChange spongeKeysWrong)

/-- 'sentinellaw3.SpongeStretches': WHATEVER THE INPUT: true; the input reads as it did. -/
def spongeStretchesSpec : ChangeSpec := { name := "spongeStretches", fn := fun _ => fun
  | [d1, d2, d3, d4, d5] => { results := [.lit (.bool true)], args := [d1, d2, d3, d4, d5] }
  | _ => none }
def spongeStretchesRow : OpenClaim := { program := "ytbbpcgodjncflaa", sum := "3bb3224ea9e64db891201407e129b64f83e565da40a0485f390a2314fa4ed1c8", func := "sentinel/sentinellaw3.SpongeStretches", spec := "spongeStretches", unfollowed := true, recurses := true, apart := false }
def SpongeStretchesSaid : Prop := spongeStretchesRow.holds Try.pinned (OpenSpec.ofChange spongeStretchesSpec)

/-- ITS FALSE NEIGHBOUR: 'it returns false'. Refute it at one input. -/
def spongeStretchesWrong : ChangeSpec := { name := "spongeStretches", fn := fun _ => fun
  | [d1, d2, d3, d4, d5] => { results := [.lit (.bool false)], args := [d1, d2, d3, d4, d5] }
  | _ => none }
def SpongeStretchesWrongFalsely : Prop := spongeStretchesRow.holds Try.pinned (OpenSpec.ofChange spongeStretchesWrong)

/-- 'sentinellaw3.SpongeTimes': WHATEVER THE INPUT: true; the input reads as it did. -/
def spongeTimesSpec : ChangeSpec := { name := "spongeTimes", fn := fun _ => fun
  | [d1, d2, d3] => { results := [.lit (.bool true)], args := [d1, d2, d3] }
  | _ => none }
def spongeTimesRow : OpenClaim := { program := "ytbbpcgodjncflaa", sum := "3bb3224ea9e64db891201407e129b64f83e565da40a0485f390a2314fa4ed1c8", func := "sentinel/sentinellaw3.SpongeTimes", spec := "spongeTimes", unfollowed := true, recurses := true, apart := false }
def SpongeTimesSaid : Prop := spongeTimesRow.holds Try.pinned (OpenSpec.ofChange spongeTimesSpec)

/-- ITS FALSE NEIGHBOUR: 'it returns false'. Refute it at one input. -/
def spongeTimesWrong : ChangeSpec := { name := "spongeTimes", fn := fun _ => fun
  | [d1, d2, d3] => { results := [.lit (.bool false)], args := [d1, d2, d3] }
  | _ => none }
def SpongeTimesWrongFalsely : Prop := spongeTimesRow.holds Try.pinned (OpenSpec.ofChange spongeTimesWrong)

/- THE SECOND FORM. 'bulk': how many values and letters a reading holds, each counted each time it is reached (what is shared counts as often as it is met; a slice's spare places count too). A statement '..UptoSaid' is the law's where the arguments, and the package variables that the reading takes, are together of bulk at most 1048576: NARROWER than '..Said'. Prove '..Said' where nothing that the law and all that it calls make is longer than what came in: it says more and counts as full. Else prove '..UptoSaid'. A law counts once. -/
mutual
def uptoBulk {H : Type} : DataW H → Nat
  | .lit (.string bytes) => bytes.length + 1
  | .lit _ => 1
  | .nil => 1
  | .ptr d => uptoBulk d + 1
  | .slice elems spare => uptoBulkAll elems + uptoBulkAll spare + 1
  | .agg parts => uptoBulkAll parts + 1
  | .iface _ d => uptoBulk d + 1
  | .map entries => uptoBulkEntries entries + 1
  | .held _ => 1
def uptoBulkAll {H : Type} : List (DataW H) → Nat
  | [] => 0
  | d :: r => uptoBulk d + uptoBulkAll r
def uptoBulkEntries {H : Type} : List (Lit × DataW H) → Nat
  | [] => 0
  | x :: r => uptoBulkEntry x + uptoBulkEntries r
def uptoBulkEntry {H : Type} : Lit × DataW H → Nat
  | (.string bytes, d) => bytes.length + uptoBulk d + 1
  | (_, d) => uptoBulk d + 1
 end
def uptoSmall : (H : Type) → List (DataW H) → Bool := fun _ ds => decide (uptoBulkAll ds ≤ 1048576)
def OpenSpec.upto (s : _root_.Go.ChangeSpec) : _root_.Go.OpenSpec := { _root_.Go.OpenSpec.ofChange s with cond := some uptoSmall }

/-- 'sentinellaw3.SpongeMixes', WHERE WHAT IT READS IS OF BULK AT MOST 1048576: true; the input reads as it did. -/
def spongeMixesUptoRow : OpenClaim := { program := "ytbbpcgodjncflaa", sum := "3bb3224ea9e64db891201407e129b64f83e565da40a0485f390a2314fa4ed1c8", func := "sentinel/sentinellaw3.SpongeMixes", spec := "spongeMixes", unfollowed := true, recurses := true, apart := false, narrowed := true }
def SpongeMixesUptoSaid : Prop := spongeMixesUptoRow.holds Try.pinned (OpenSpec.upto spongeMixesSpec)

/-- 'sentinellaw3.SpongeUndone', WHERE WHAT IT READS IS OF BULK AT MOST 1048576: true; the input reads as it did. -/
def spongeUndoneUptoRow : OpenClaim := { program := "ytbbpcgodjncflaa", sum := "3bb3224ea9e64db891201407e129b64f83e565da40a0485f390a2314fa4ed1c8", func := "sentinel/sentinellaw3.SpongeUndone", spec := "spongeUndone", unfollowed := true, recurses := true, apart := false, narrowed := true }
def SpongeUndoneUptoSaid : Prop := spongeUndoneUptoRow.holds Try.pinned (OpenSpec.upto spongeUndoneSpec)

/-- 'sentinellaw3.SpongeSums', WHERE WHAT IT READS IS OF BULK AT MOST 1048576: true; the input reads as it did. -/
def spongeSumsUptoRow : OpenClaim := { program := "ytbbpcgodjncflaa", sum := "3bb3224ea9e64db891201407e129b64f83e565da40a0485f390a2314fa4ed1c8", func := "sentinel/sentinellaw3.SpongeSums", spec := "spongeSums", unfollowed := true, recurses := true, apart := false, narrowed := true }
def SpongeSumsUptoSaid : Prop := spongeSumsUptoRow.holds Try.pinned (OpenSpec.upto spongeSumsSpec)

/-- 'sentinellaw3.SpongeMacs', WHERE WHAT IT READS IS OF BULK AT MOST 1048576: true; the input reads as it did. -/
def spongeMacsUptoRow : OpenClaim := { program := "ytbbpcgodjncflaa", sum := "3bb3224ea9e64db891201407e129b64f83e565da40a0485f390a2314fa4ed1c8", func := "sentinel/sentinellaw3.SpongeMacs", spec := "spongeMacs", unfollowed := true, recurses := true, apart := false, narrowed := true }
def SpongeMacsUptoSaid : Prop := spongeMacsUptoRow.holds Try.pinned (OpenSpec.upto spongeMacsSpec)

/-- 'sentinellaw3.SpongeSame', WHERE WHAT IT READS IS OF BULK AT MOST 1048576: true; the input reads as it did. -/
def spongeSameUptoRow : OpenClaim := { program := "ytbbpcgodjncflaa", sum := "3bb3224ea9e64db891201407e129b64f83e565da40a0485f390a2314fa4ed1c8", func := "sentinel/sentinellaw3.SpongeSame", spec := "spongeSame", unfollowed := true, recurses := true, apart := false, narrowed := true }
def SpongeSameUptoSaid : Prop := spongeSameUptoRow.holds Try.pinned (OpenSpec.upto spongeSameSpec)

/-- 'sentinellaw3.SpongeOwn', WHERE WHAT IT READS IS OF BULK AT MOST 1048576: true; the input reads as it did. -/
def spongeOwnUptoRow : OpenClaim := { program := "ytbbpcgodjncflaa", sum := "3bb3224ea9e64db891201407e129b64f83e565da40a0485f390a2314fa4ed1c8", func := "sentinel/sentinellaw3.SpongeOwn", spec := "spongeOwn", unfollowed := true, recurses := true, apart := false, narrowed := true }
def SpongeOwnUptoSaid : Prop := spongeOwnUptoRow.holds Try.pinned (OpenSpec.upto spongeOwnSpec)

/-- 'sentinellaw3.SpongeParts', WHERE WHAT IT READS IS OF BULK AT MOST 1048576: true; the input reads as it did. -/
def spongePartsUptoRow : OpenClaim := { program := "ytbbpcgodjncflaa", sum := "3bb3224ea9e64db891201407e129b64f83e565da40a0485f390a2314fa4ed1c8", func := "sentinel/sentinellaw3.SpongeParts", spec := "spongeParts", unfollowed := true, recurses := true, apart := false, narrowed := true }
def SpongePartsUptoSaid : Prop := spongePartsUptoRow.holds Try.pinned (OpenSpec.upto spongePartsSpec)

/-- 'sentinellaw3.SpongeBlocks', WHERE WHAT IT READS IS OF BULK AT MOST 1048576: true; the input reads as it did. -/
def spongeBlocksUptoRow : OpenClaim := { program := "ytbbpcgodjncflaa", sum := "3bb3224ea9e64db891201407e129b64f83e565da40a0485f390a2314fa4ed1c8", func := "sentinel/sentinellaw3.SpongeBlocks", spec := "spongeBlocks", unfollowed := true, recurses := true, apart := false, narrowed := true }
def SpongeBlocksUptoSaid : Prop := spongeBlocksUptoRow.holds Try.pinned (OpenSpec.upto spongeBlocksSpec)

/-- 'sentinellaw3.SpongeStreams', WHERE WHAT IT READS IS OF BULK AT MOST 1048576: true; the input reads as it did. -/
def spongeStreamsUptoRow : OpenClaim := { program := "ytbbpcgodjncflaa", sum := "3bb3224ea9e64db891201407e129b64f83e565da40a0485f390a2314fa4ed1c8", func := "sentinel/sentinellaw3.SpongeStreams", spec := "spongeStreams", unfollowed := true, recurses := true, apart := false, narrowed := true }
def SpongeStreamsUptoSaid : Prop := spongeStreamsUptoRow.holds Try.pinned (OpenSpec.upto spongeStreamsSpec)

/-- 'sentinellaw3.SpongeKeys', WHERE WHAT IT READS IS OF BULK AT MOST 1048576: true; the input reads as it did. -/
def spongeKeysUptoRow : OpenClaim := { program := "ytbbpcgodjncflaa", sum := "3bb3224ea9e64db891201407e129b64f83e565da40a0485f390a2314fa4ed1c8", func := "sentinel/sentinellaw3.SpongeKeys", spec := "spongeKeys", unfollowed := true, recurses := true, apart := false, narrowed := true }
def SpongeKeysUptoSaid : Prop := spongeKeysUptoRow.holds Try.pinned (OpenSpec.upto spongeKeysSpec)

/-- 'sentinellaw3.SpongeStretches', WHERE WHAT IT READS IS OF BULK AT MOST 1048576: true; the input reads as it did. -/
def spongeStretchesUptoRow : OpenClaim := { program := "ytbbpcgodjncflaa", sum := "3bb3224ea9e64db891201407e129b64f83e565da40a0485f390a2314fa4ed1c8", func := "sentinel/sentinellaw3.SpongeStretches", spec := "spongeStretches", unfollowed := true, recurses := true, apart := false, narrowed := true }
def SpongeStretchesUptoSaid : Prop := spongeStretchesUptoRow.holds Try.pinned (OpenSpec.upto spongeStretchesSpec)

/-- 'sentinellaw3.SpongeTimes', WHERE WHAT IT READS IS OF BULK AT MOST 1048576: true; the input reads as it did. -/
def spongeTimesUptoRow : OpenClaim := { program := "ytbbpcgodjncflaa", sum := "3bb3224ea9e64db891201407e129b64f83e565da40a0485f390a2314fa4ed1c8", func := "sentinel/sentinellaw3.SpongeTimes", spec := "spongeTimes", unfollowed := true, recurses := true, apart := false, narrowed := true }
def SpongeTimesUptoSaid : Prop := spongeTimesUptoRow.holds Try.pinned (OpenSpec.upto spongeTimesSpec)

end Rows
end Go.Proofs.Ytbbpcgodjncflaa
