/-
  No cell of these rows narrows 'for every input' (looked for: loops, veiled, ifaces, maps, wideKeys, modest, calm, conditions, laid).
  DERIVED. THE GIVEN ROWS OF THIS SEAT. 13 by the template 'for every input the law returns true; each argument reads behind the call as it read before'; 0 by the template 'total and deterministic' (their statements: YthpjihiikkhcjaaTotals.lean).
  GIVEN WITH THE SEED: the statements are not yours to turn. If you find one false, say at which input.
  Laid BY PROGRAM, IN A SANDBOX (cutbox-rows.mjs): the forced cells as the released guide's own fill.sh prints them over the translation fb46c00a30403826… (all of the seat's roots in one cut). By AI agents, Wed Nov 11 2026. No macro, syntax, notation, axiom, sorry.
-/
import Derived.Test.YthpjihiikkhcjaaChecked
import GoSem.Claim
import GoSem.ClaimJoined
import GoSem.ClaimMapViews
import Derived.JoinedTies
import Derived.KernelRfl
namespace Go.Proofs.Ythpjihiikkhcjaa
/- THE CELL 'sum', in the pinned program and in every row, IS THE sha256 OF THE DUMP (.gsa) THAT YthpjihiikkhcjaaProg.lean LOADS. Nothing in Lean hashes anything: it is a label: what it is worth is what the hold of that sum in a sandbox is worth. -/
noncomputable def Try.pinned : Pinned := { name := "ythpjihiikkhcjaa", sum := "fb46c00a304038266bfd0dda51b29f08603d79cd129d23a2ec5f9d0dfe82392d", checked := Try.checked }
namespace Rows
def none {H : Type} : Left H := { results := [], args := [] }

/-- 'sentinellaw9.GuardSteps': WHATEVER THE INPUT: true; the input reads as it did. -/
def guardStepsSpec : ChangeSpec := { name := "guardSteps", fn := fun _ => fun
  | [d1, d2, d3, d4] => { results := [.lit (.bool true)], args := [d1, d2, d3, d4] }
  | _ => none }
def guardStepsRow : OpenClaim := { program := "ythpjihiikkhcjaa", sum := "fb46c00a304038266bfd0dda51b29f08603d79cd129d23a2ec5f9d0dfe82392d", func := "sentinel/sentinellaw9.GuardSteps", spec := "guardSteps", unfollowed := true, recurses := true, apart := false }
def GuardStepsSaid : Prop := guardStepsRow.holds Try.pinned (OpenSpec.ofChange guardStepsSpec)

/-- ITS FALSE NEIGHBOUR: 'it returns false'. Refute it at one input. -/
def guardStepsWrong : ChangeSpec := { name := "guardSteps", fn := fun _ => fun
  | [d1, d2, d3, d4] => { results := [.lit (.bool false)], args := [d1, d2, d3, d4] }
  | _ => none }
def GuardStepsWrongFalsely : Prop := guardStepsRow.holds Try.pinned (OpenSpec.ofChange guardStepsWrong)

/-- 'sentinellaw9.GuardTokens': WHATEVER THE INPUT: true; the input reads as it did. -/
def guardTokensSpec : ChangeSpec := { name := "guardTokens", fn := fun _ => fun
  | [d1, d2, d3] => { results := [.lit (.bool true)], args := [d1, d2, d3] }
  | _ => none }
def guardTokensRow : OpenClaim := { program := "ythpjihiikkhcjaa", sum := "fb46c00a304038266bfd0dda51b29f08603d79cd129d23a2ec5f9d0dfe82392d", func := "sentinel/sentinellaw9.GuardTokens", spec := "guardTokens", unfollowed := true, recurses := true, apart := false }
def GuardTokensSaid : Prop := guardTokensRow.holds Try.pinned (OpenSpec.ofChange guardTokensSpec)

/-- ITS FALSE NEIGHBOUR: 'it returns false'. Refute it at one input. -/
def guardTokensWrong : ChangeSpec := { name := "guardTokens", fn := fun _ => fun
  | [d1, d2, d3] => { results := [.lit (.bool false)], args := [d1, d2, d3] }
  | _ => none }
def GuardTokensWrongFalsely : Prop := guardTokensRow.holds Try.pinned (OpenSpec.ofChange guardTokensWrong)

/-- 'sentinellaw9.GuardReads': WHATEVER THE INPUT: true; the input reads as it did. -/
def guardReadsSpec : ChangeSpec := { name := "guardReads", fn := fun _ => fun
  | [d1, d2, d3, d4, d5, d6, d7, d8] => { results := [.lit (.bool true)], args := [d1, d2, d3, d4, d5, d6, d7, d8] }
  | _ => none }
def guardReadsRow : OpenClaim := { program := "ythpjihiikkhcjaa", sum := "fb46c00a304038266bfd0dda51b29f08603d79cd129d23a2ec5f9d0dfe82392d", func := "sentinel/sentinellaw9.GuardReads", spec := "guardReads", unfollowed := true, recurses := true, apart := false }
def GuardReadsSaid : Prop := guardReadsRow.holds Try.pinned (OpenSpec.ofChange guardReadsSpec)

/-- ITS FALSE NEIGHBOUR: 'it returns false'. Refute it at one input. -/
def guardReadsWrong : ChangeSpec := { name := "guardReads", fn := fun _ => fun
  | [d1, d2, d3, d4, d5, d6, d7, d8] => { results := [.lit (.bool false)], args := [d1, d2, d3, d4, d5, d6, d7, d8] }
  | _ => none }
def GuardReadsWrongFalsely : Prop := guardReadsRow.holds Try.pinned (OpenSpec.ofChange guardReadsWrong)

/-- 'sentinellaw9.GuardLives': WHATEVER THE INPUT: true; the input reads as it did. -/
def guardLivesSpec : ChangeSpec := { name := "guardLives", fn := fun _ => fun
  | [d1, d2, d3, d4, d5, d6, d7] => { results := [.lit (.bool true)], args := [d1, d2, d3, d4, d5, d6, d7] }
  | _ => none }
def guardLivesRow : OpenClaim := { program := "ythpjihiikkhcjaa", sum := "fb46c00a304038266bfd0dda51b29f08603d79cd129d23a2ec5f9d0dfe82392d", func := "sentinel/sentinellaw9.GuardLives", spec := "guardLives", unfollowed := true, recurses := true, apart := false }
def GuardLivesSaid : Prop := guardLivesRow.holds Try.pinned (OpenSpec.ofChange guardLivesSpec)

/-- ITS FALSE NEIGHBOUR: 'it returns false'. Refute it at one input. -/
def guardLivesWrong : ChangeSpec := { name := "guardLives", fn := fun _ => fun
  | [d1, d2, d3, d4, d5, d6, d7] => { results := [.lit (.bool false)], args := [d1, d2, d3, d4, d5, d6, d7] }
  | _ => none }
def GuardLivesWrongFalsely : Prop := guardLivesRow.holds Try.pinned (OpenSpec.ofChange guardLivesWrong)

/-- 'sentinellaw9.GuardFills': WHATEVER THE INPUT: true; the input reads as it did. -/
def guardFillsSpec : ChangeSpec := { name := "guardFills", fn := fun _ => fun
  | [d1, d2] => { results := [.lit (.bool true)], args := [d1, d2] }
  | _ => none }
def guardFillsRow : OpenClaim := { program := "ythpjihiikkhcjaa", sum := "fb46c00a304038266bfd0dda51b29f08603d79cd129d23a2ec5f9d0dfe82392d", func := "sentinel/sentinellaw9.GuardFills", spec := "guardFills", unfollowed := true, recurses := true, apart := false }
def GuardFillsSaid : Prop := guardFillsRow.holds Try.pinned (OpenSpec.ofChange guardFillsSpec)

/-- ITS FALSE NEIGHBOUR: 'it returns false'. Refute it at one input. -/
def guardFillsWrong : ChangeSpec := { name := "guardFills", fn := fun _ => fun
  | [d1, d2] => { results := [.lit (.bool false)], args := [d1, d2] }
  | _ => none }
def GuardFillsWrongFalsely : Prop := guardFillsRow.holds Try.pinned (OpenSpec.ofChange guardFillsWrong)

/-- 'sentinellaw9.GuardEmpties': WHATEVER THE INPUT: true; the input reads as it did. -/
def guardEmptiesSpec : ChangeSpec := { name := "guardEmpties", fn := fun _ => fun
  | [d1, d2, d3] => { results := [.lit (.bool true)], args := [d1, d2, d3] }
  | _ => none }
def guardEmptiesRow : OpenClaim := { program := "ythpjihiikkhcjaa", sum := "fb46c00a304038266bfd0dda51b29f08603d79cd129d23a2ec5f9d0dfe82392d", func := "sentinel/sentinellaw9.GuardEmpties", spec := "guardEmpties", unfollowed := true, recurses := true, apart := false }
def GuardEmptiesSaid : Prop := guardEmptiesRow.holds Try.pinned (OpenSpec.ofChange guardEmptiesSpec)

/-- ITS FALSE NEIGHBOUR: 'it returns false'. Refute it at one input. -/
def guardEmptiesWrong : ChangeSpec := { name := "guardEmpties", fn := fun _ => fun
  | [d1, d2, d3] => { results := [.lit (.bool false)], args := [d1, d2, d3] }
  | _ => none }
def GuardEmptiesWrongFalsely : Prop := guardEmptiesRow.holds Try.pinned (OpenSpec.ofChange guardEmptiesWrong)

/-- 'sentinellaw9.GuardBack': WHATEVER THE INPUT: true; the input reads as it did. -/
def guardBackSpec : ChangeSpec := { name := "guardBack", fn := fun _ => fun
  | [d1, d2, d3] => { results := [.lit (.bool true)], args := [d1, d2, d3] }
  | _ => none }
def guardBackRow : OpenClaim := { program := "ythpjihiikkhcjaa", sum := "fb46c00a304038266bfd0dda51b29f08603d79cd129d23a2ec5f9d0dfe82392d", func := "sentinel/sentinellaw9.GuardBack", spec := "guardBack", unfollowed := true, recurses := true, apart := false }
def GuardBackSaid : Prop := guardBackRow.holds Try.pinned (OpenSpec.ofChange guardBackSpec)

/-- ITS FALSE NEIGHBOUR: 'it returns false'. Refute it at one input. -/
def guardBackWrong : ChangeSpec := { name := "guardBack", fn := fun _ => fun
  | [d1, d2, d3] => { results := [.lit (.bool false)], args := [d1, d2, d3] }
  | _ => none }
def GuardBackWrongFalsely : Prop := guardBackRow.holds Try.pinned (OpenSpec.ofChange guardBackWrong)

/-- 'sentinellaw9.GuardApart': WHATEVER THE INPUT: true; the input reads as it did. -/
def guardApartSpec : ChangeSpec := { name := "guardApart", fn := fun _ => fun
  | [d1, d2, d3, d4, d5] => { results := [.lit (.bool true)], args := [d1, d2, d3, d4, d5] }
  | _ => none }
def guardApartRow : OpenClaim := { program := "ythpjihiikkhcjaa", sum := "fb46c00a304038266bfd0dda51b29f08603d79cd129d23a2ec5f9d0dfe82392d", func := "sentinel/sentinellaw9.GuardApart", spec := "guardApart", unfollowed := true, recurses := true, apart := false }
def GuardApartSaid : Prop := guardApartRow.holds Try.pinned (OpenSpec.ofChange guardApartSpec)

/-- ITS FALSE NEIGHBOUR: 'it returns false'. Refute it at one input. -/
def guardApartWrong : ChangeSpec := { name := "guardApart", fn := fun _ => fun
  | [d1, d2, d3, d4, d5] => { results := [.lit (.bool false)], args := [d1, d2, d3, d4, d5] }
  | _ => none }
def GuardApartWrongFalsely : Prop := guardApartRow.holds Try.pinned (OpenSpec.ofChange guardApartWrong)

/-- 'sentinellaw9.GuardNumbers': WHATEVER THE INPUT: true; the input reads as it did. -/
def guardNumbersSpec : ChangeSpec := { name := "guardNumbers", fn := fun _ => fun
  | [d1, d2, d3, d4, d5, d6] => { results := [.lit (.bool true)], args := [d1, d2, d3, d4, d5, d6] }
  | _ => none }
def guardNumbersRow : OpenClaim := { program := "ythpjihiikkhcjaa", sum := "fb46c00a304038266bfd0dda51b29f08603d79cd129d23a2ec5f9d0dfe82392d", func := "sentinel/sentinellaw9.GuardNumbers", spec := "guardNumbers", unfollowed := true, recurses := true, apart := false }
def GuardNumbersSaid : Prop := guardNumbersRow.holds Try.pinned (OpenSpec.ofChange guardNumbersSpec)

/-- ITS FALSE NEIGHBOUR: 'it returns false'. Refute it at one input. -/
def guardNumbersWrong : ChangeSpec := { name := "guardNumbers", fn := fun _ => fun
  | [d1, d2, d3, d4, d5, d6] => { results := [.lit (.bool false)], args := [d1, d2, d3, d4, d5, d6] }
  | _ => none }
def GuardNumbersWrongFalsely : Prop := guardNumbersRow.holds Try.pinned (OpenSpec.ofChange guardNumbersWrong)

/-- 'sentinellaw9.GuardAll': WHATEVER THE INPUT: true; the input reads as it did. -/
def guardAllSpec : ChangeSpec := { name := "guardAll", fn := fun _ => fun
  | [d1, d2, d3, d4] => { results := [.lit (.bool true)], args := [d1, d2, d3, d4] }
  | _ => none }
def guardAllRow : OpenClaim := { program := "ythpjihiikkhcjaa", sum := "fb46c00a304038266bfd0dda51b29f08603d79cd129d23a2ec5f9d0dfe82392d", func := "sentinel/sentinellaw9.GuardAll", spec := "guardAll", unfollowed := true, recurses := true, apart := false }
def GuardAllSaid : Prop := guardAllRow.holds Try.pinned (OpenSpec.ofChange guardAllSpec)

/-- ITS FALSE NEIGHBOUR: 'it returns false'. Refute it at one input. -/
def guardAllWrong : ChangeSpec := { name := "guardAll", fn := fun _ => fun
  | [d1, d2, d3, d4] => { results := [.lit (.bool false)], args := [d1, d2, d3, d4] }
  | _ => none }
def GuardAllWrongFalsely : Prop := guardAllRow.holds Try.pinned (OpenSpec.ofChange guardAllWrong)

/-- 'sentinellaw9.GuardBounds': WHATEVER THE INPUT: true; the input reads as it did. -/
def guardBoundsSpec : ChangeSpec := { name := "guardBounds", fn := fun _ => fun
  | [d] => { results := [.lit (.bool true)], args := [d] }
  | _ => none }
def guardBoundsRow : OpenClaim := { program := "ythpjihiikkhcjaa", sum := "fb46c00a304038266bfd0dda51b29f08603d79cd129d23a2ec5f9d0dfe82392d", func := "sentinel/sentinellaw9.GuardBounds", spec := "guardBounds", unfollowed := true, recurses := true, apart := false }
def GuardBoundsSaid : Prop := guardBoundsRow.holds Try.pinned (OpenSpec.ofChange guardBoundsSpec)

/-- ITS FALSE NEIGHBOUR: 'it returns false'. Refute it at one input. -/
def guardBoundsWrong : ChangeSpec := { name := "guardBounds", fn := fun _ => fun
  | [d] => { results := [.lit (.bool false)], args := [d] }
  | _ => none }
def GuardBoundsWrongFalsely : Prop := guardBoundsRow.holds Try.pinned (OpenSpec.ofChange guardBoundsWrong)

/-- 'sentinellaw9.GuardUndone': WHATEVER THE INPUT: true; the input reads as it did. -/
def guardUndoneSpec : ChangeSpec := { name := "guardUndone", fn := fun _ => fun
  | [d1, d2, d3] => { results := [.lit (.bool true)], args := [d1, d2, d3] }
  | _ => none }
def guardUndoneRow : OpenClaim := { program := "ythpjihiikkhcjaa", sum := "fb46c00a304038266bfd0dda51b29f08603d79cd129d23a2ec5f9d0dfe82392d", func := "sentinel/sentinellaw9.GuardUndone", spec := "guardUndone", unfollowed := true, recurses := true, apart := false }
def GuardUndoneSaid : Prop := guardUndoneRow.holds Try.pinned (OpenSpec.ofChange guardUndoneSpec)

/-- ITS FALSE NEIGHBOUR: 'it returns false'. Refute it at one input. -/
def guardUndoneWrong : ChangeSpec := { name := "guardUndone", fn := fun _ => fun
  | [d1, d2, d3] => { results := [.lit (.bool false)], args := [d1, d2, d3] }
  | _ => none }
def GuardUndoneWrongFalsely : Prop := guardUndoneRow.holds Try.pinned (OpenSpec.ofChange guardUndoneWrong)

/-- 'sentinellaw9.GuardRefunds': WHATEVER THE INPUT: true; the input reads as it did. -/
def guardRefundsSpec : ChangeSpec := { name := "guardRefunds", fn := fun _ => fun
  | [d1, d2, d3] => { results := [.lit (.bool true)], args := [d1, d2, d3] }
  | _ => none }
def guardRefundsRow : OpenClaim := { program := "ythpjihiikkhcjaa", sum := "fb46c00a304038266bfd0dda51b29f08603d79cd129d23a2ec5f9d0dfe82392d", func := "sentinel/sentinellaw9.GuardRefunds", spec := "guardRefunds", unfollowed := true, recurses := true, apart := false }
def GuardRefundsSaid : Prop := guardRefundsRow.holds Try.pinned (OpenSpec.ofChange guardRefundsSpec)

/-- ITS FALSE NEIGHBOUR: 'it returns false'. Refute it at one input. -/
def guardRefundsWrong : ChangeSpec := { name := "guardRefunds", fn := fun _ => fun
  | [d1, d2, d3] => { results := [.lit (.bool false)], args := [d1, d2, d3] }
  | _ => none }
def GuardRefundsWrongFalsely : Prop := guardRefundsRow.holds Try.pinned (OpenSpec.ofChange guardRefundsWrong)

/- THE SECOND FORM. 'bulk': how many values and letters a reading holds, each counted each time it is reached (what is shared counts as often as it is met; a slice's spare places count too). A statement '..UptoSaid' is the law's where the arguments, and the package variables that the reading takes, are together of bulk at most 1048576: NARROWER than '..Said'. Prove '..Said' where nothing that the law and all that it calls make is longer than what came in: it says more and counts as full. Else prove '..UptoSaid'. A law counts once. -/
mutual
def uptoBulk {H : Type} : DataW H → Nat
  | .lit (.string bytes) => bytes.length + 1
  | .lit _ => 1
  | .nil => 1
  | .ptr d => uptoBulk d + 1
  | .slice elems spare => uptoBulkAll elems + uptoBulkAll spare + 1
  | .agg parts => uptoBulkAll parts + 1
  | .iface _ d => uptoBulk d + 1
  | .map entries => uptoBulkEntries entries + 1
  | .held _ => 1
def uptoBulkAll {H : Type} : List (DataW H) → Nat
  | [] => 0
  | d :: r => uptoBulk d + uptoBulkAll r
def uptoBulkEntries {H : Type} : List (Lit × DataW H) → Nat
  | [] => 0
  | x :: r => uptoBulkEntry x + uptoBulkEntries r
def uptoBulkEntry {H : Type} : Lit × DataW H → Nat
  | (.string bytes, d) => bytes.length + uptoBulk d + 1
  | (_, d) => uptoBulk d + 1
 end
def uptoSmall : (H : Type) → List (DataW H) → Bool := fun _ ds => decide (uptoBulkAll ds ≤ 1048576)
def OpenSpec.upto (s : _root_.Go.ChangeSpec) : _root_.Go.OpenSpec := { _root_.Go.OpenSpec.ofChange s with cond := some uptoSmall }

/-- 'sentinellaw9.GuardSteps', WHERE WHAT IT READS IS OF BULK AT MOST 1048576: true; the input reads as it did. -/
def guardStepsUptoRow : OpenClaim := { program := "ythpjihiikkhcjaa", sum := "fb46c00a304038266bfd0dda51b29f08603d79cd129d23a2ec5f9d0dfe82392d", func := "sentinel/sentinellaw9.GuardSteps", spec := "guardSteps", unfollowed := true, recurses := true, apart := false, narrowed := true }
def GuardStepsUptoSaid : Prop := guardStepsUptoRow.holds Try.pinned (OpenSpec.upto guardStepsSpec)

/-- 'sentinellaw9.GuardTokens', WHERE WHAT IT READS IS OF BULK AT MOST 1048576: true; the input reads as it did. -/
def guardTokensUptoRow : OpenClaim := { program := "ythpjihiikkhcjaa", sum := "fb46c00a304038266bfd0dda51b29f08603d79cd129d23a2ec5f9d0dfe82392d", func := "sentinel/sentinellaw9.GuardTokens", spec := "guardTokens", unfollowed := true, recurses := true, apart := false, narrowed := true }
def GuardTokensUptoSaid : Prop := guardTokensUptoRow.holds Try.pinned (OpenSpec.upto guardTokensSpec)

/-- 'sentinellaw9.GuardReads', WHERE WHAT IT READS IS OF BULK AT MOST 1048576: true; the input reads as it did. -/
def guardReadsUptoRow : OpenClaim := { program := "ythpjihiikkhcjaa", sum := "fb46c00a304038266bfd0dda51b29f08603d79cd129d23a2ec5f9d0dfe82392d", func := "sentinel/sentinellaw9.GuardReads", spec := "guardReads", unfollowed := true, recurses := true, apart := false, narrowed := true }
def GuardReadsUptoSaid : Prop := guardReadsUptoRow.holds Try.pinned (OpenSpec.upto guardReadsSpec)

/-- 'sentinellaw9.GuardLives', WHERE WHAT IT READS IS OF BULK AT MOST 1048576: true; the input reads as it did. -/
def guardLivesUptoRow : OpenClaim := { program := "ythpjihiikkhcjaa", sum := "fb46c00a304038266bfd0dda51b29f08603d79cd129d23a2ec5f9d0dfe82392d", func := "sentinel/sentinellaw9.GuardLives", spec := "guardLives", unfollowed := true, recurses := true, apart := false, narrowed := true }
def GuardLivesUptoSaid : Prop := guardLivesUptoRow.holds Try.pinned (OpenSpec.upto guardLivesSpec)

/-- 'sentinellaw9.GuardFills', WHERE WHAT IT READS IS OF BULK AT MOST 1048576: true; the input reads as it did. -/
def guardFillsUptoRow : OpenClaim := { program := "ythpjihiikkhcjaa", sum := "fb46c00a304038266bfd0dda51b29f08603d79cd129d23a2ec5f9d0dfe82392d", func := "sentinel/sentinellaw9.GuardFills", spec := "guardFills", unfollowed := true, recurses := true, apart := false, narrowed := true }
def GuardFillsUptoSaid : Prop := guardFillsUptoRow.holds Try.pinned (OpenSpec.upto guardFillsSpec)

/-- 'sentinellaw9.GuardEmpties', WHERE WHAT IT READS IS OF BULK AT MOST 1048576: true; the input reads as it did. -/
def guardEmptiesUptoRow : OpenClaim := { program := "ythpjihiikkhcjaa", sum := "fb46c00a304038266bfd0dda51b29f08603d79cd129d23a2ec5f9d0dfe82392d", func := "sentinel/sentinellaw9.GuardEmpties", spec := "guardEmpties", unfollowed := true, recurses := true, apart := false, narrowed := true }
def GuardEmptiesUptoSaid : Prop := guardEmptiesUptoRow.holds Try.pinned (OpenSpec.upto guardEmptiesSpec)

/-- 'sentinellaw9.GuardBack', WHERE WHAT IT READS IS OF BULK AT MOST 1048576: true; the input reads as it did. -/
def guardBackUptoRow : OpenClaim := { program := "ythpjihiikkhcjaa", sum := "fb46c00a304038266bfd0dda51b29f08603d79cd129d23a2ec5f9d0dfe82392d", func := "sentinel/sentinellaw9.GuardBack", spec := "guardBack", unfollowed := true, recurses := true, apart := false, narrowed := true }
def GuardBackUptoSaid : Prop := guardBackUptoRow.holds Try.pinned (OpenSpec.upto guardBackSpec)

/-- 'sentinellaw9.GuardApart', WHERE WHAT IT READS IS OF BULK AT MOST 1048576: true; the input reads as it did. -/
def guardApartUptoRow : OpenClaim := { program := "ythpjihiikkhcjaa", sum := "fb46c00a304038266bfd0dda51b29f08603d79cd129d23a2ec5f9d0dfe82392d", func := "sentinel/sentinellaw9.GuardApart", spec := "guardApart", unfollowed := true, recurses := true, apart := false, narrowed := true }
def GuardApartUptoSaid : Prop := guardApartUptoRow.holds Try.pinned (OpenSpec.upto guardApartSpec)

/-- 'sentinellaw9.GuardNumbers', WHERE WHAT IT READS IS OF BULK AT MOST 1048576: true; the input reads as it did. -/
def guardNumbersUptoRow : OpenClaim := { program := "ythpjihiikkhcjaa", sum := "fb46c00a304038266bfd0dda51b29f08603d79cd129d23a2ec5f9d0dfe82392d", func := "sentinel/sentinellaw9.GuardNumbers", spec := "guardNumbers", unfollowed := true, recurses := true, apart := false, narrowed := true }
def GuardNumbersUptoSaid : Prop := guardNumbersUptoRow.holds Try.pinned (OpenSpec.upto guardNumbersSpec)

/-- 'sentinellaw9.GuardAll', WHERE WHAT IT READS IS OF BULK AT MOST 1048576: true; the input reads as it did. -/
def guardAllUptoRow : OpenClaim := { program := "ythpjihiikkhcjaa", sum := "fb46c00a304038266bfd0dda51b29f08603d79cd129d23a2ec5f9d0dfe82392d", func := "sentinel/sentinellaw9.GuardAll", spec := "guardAll", unfollowed := true, recurses := true, apart := false, narrowed := true }
def GuardAllUptoSaid : Prop := guardAllUptoRow.holds Try.pinned (OpenSpec.upto guardAllSpec)

/-- 'sentinellaw9.GuardBounds', WHERE WHAT IT READS IS OF BULK AT MOST 1048576: true; the input reads as it did. -/
def guardBoundsUptoRow : OpenClaim := { program := "ythpjihiikkhcjaa", sum := "fb46c00a304038266bfd0dda51b29f08603d79cd129d23a2ec5f9d0dfe82392d", func := "sentinel/sentinellaw9.GuardBounds", spec := "guardBounds", unfollowed := true, recurses := true, apart := false, narrowed := true }
def GuardBoundsUptoSaid : Prop := guardBoundsUptoRow.holds Try.pinned (OpenSpec.upto guardBoundsSpec)

/-- 'sentinellaw9.GuardUndone', WHERE WHAT IT READS IS OF BULK AT MOST 1048576: true; the input reads as it did. -/
def guardUndoneUptoRow : OpenClaim := { program := "ythpjihiikkhcjaa", sum := "fb46c00a304038266bfd0dda51b29f08603d79cd129d23a2ec5f9d0dfe82392d", func := "sentinel/sentinellaw9.GuardUndone", spec := "guardUndone", unfollowed := true, recurses := true, apart := false, narrowed := true }
def GuardUndoneUptoSaid : Prop := guardUndoneUptoRow.holds Try.pinned (OpenSpec.upto guardUndoneSpec)

/-- 'sentinellaw9.GuardRefunds', WHERE WHAT IT READS IS OF BULK AT MOST 1048576: true; the input reads as it did. -/
def guardRefundsUptoRow : OpenClaim := { program := "ythpjihiikkhcjaa", sum := "fb46c00a304038266bfd0dda51b29f08603d79cd129d23a2ec5f9d0dfe82392d", func := "sentinel/sentinellaw9.GuardRefunds", spec := "guardRefunds", unfollowed := true, recurses := true, apart := false, narrowed := true }
def GuardRefundsUptoSaid : Prop := guardRefundsUptoRow.holds Try.pinned (OpenSpec.upto guardRefundsSpec)

end Rows
end Go.Proofs.Ythpjihiikkhcjaa
