/-
  No cell of these rows narrows 'for every input' (looked for: loops, veiled, ifaces, maps, wideKeys, modest, calm, conditions, laid).
  DERIVED. THE GIVEN ROWS OF THIS SEAT. 10 by the template 'for every input the law returns true; each argument reads behind the call as it read before'; 0 by the template 'total and deterministic' (their statements: YtniioedflegdkaaTotals.lean).
  GIVEN WITH THE SEED: the statements are not yours to turn. If you find one false, say at which input.
  Laid BY PROGRAM, IN A SANDBOX (cutbox-rows.mjs): the forced cells as the released guide's own fill.sh prints them over the translation 5e7dea62b35c841f… (all of the seat's roots in one cut). By AI agents, Wed Nov 11 2026. No macro, syntax, notation, axiom, sorry.
-/
import Derived.Test.YtniioedflegdkaaChecked
import GoSem.Claim
import GoSem.ClaimJoined
import GoSem.ClaimMapViews
import Derived.JoinedTies
import Derived.KernelRfl
namespace Go.Proofs.Ytniioedflegdkaa
/- THE CELL 'sum', in the pinned program and in every row, IS THE sha256 OF THE DUMP (.gsa) THAT YtniioedflegdkaaProg.lean LOADS. Nothing in Lean hashes anything: it is a label: what it is worth is what the hold of that sum in a sandbox is worth. -/
noncomputable def Try.pinned : Pinned := { name := "ytniioedflegdkaa", sum := "5e7dea62b35c841fa05f104269480ae970fa131b339c56638ff6e360e0ceea54", checked := Try.checked }
namespace Rows
def none {H : Type} : Left H := { results := [], args := [] }

/-- 'ferrysliplaw18.LogExact': WHATEVER THE INPUT: true; the input reads as it did. -/
def logExactSpec : ChangeSpec := { name := "logExact", fn := fun _ => fun
  | [d1, d2] => { results := [.lit (.bool true)], args := [d1, d2] }
  | _ => none }
def logExactRow : OpenClaim := { program := "ytniioedflegdkaa", sum := "5e7dea62b35c841fa05f104269480ae970fa131b339c56638ff6e360e0ceea54", func := "ferryslip/ferrysliplaw18.LogExact", spec := "logExact", inPlace := ["internal/abi.NoEscape", "internal/bytealg.MakeNoZero"], unfollowed := true, recurses := true, apart := false }
def LogExactSaid : Prop := logExactRow.holds Try.pinned (OpenSpec.ofChange logExactSpec)

/-- ITS FALSE NEIGHBOUR: 'it returns false'. Refute it at one input. -/
def logExactWrong : ChangeSpec := { name := "logExact", fn := fun _ => fun
  | [d1, d2] => { results := [.lit (.bool false)], args := [d1, d2] }
  | _ => none }
def LogExactWrongFalsely : Prop := logExactRow.holds Try.pinned (OpenSpec.ofChange logExactWrong)

/-- 'ferrysliplaw18.LogRenewal': WHATEVER THE INPUT: true; the input reads as it did. -/
def logRenewalSpec : ChangeSpec := { name := "logRenewal", fn := fun _ => fun
  | [d1, d2] => { results := [.lit (.bool true)], args := [d1, d2] }
  | _ => none }
def logRenewalRow : OpenClaim := { program := "ytniioedflegdkaa", sum := "5e7dea62b35c841fa05f104269480ae970fa131b339c56638ff6e360e0ceea54", func := "ferryslip/ferrysliplaw18.LogRenewal", spec := "logRenewal", inPlace := ["internal/abi.NoEscape", "internal/bytealg.MakeNoZero"], unfollowed := true, recurses := true, apart := false }
def LogRenewalSaid : Prop := logRenewalRow.holds Try.pinned (OpenSpec.ofChange logRenewalSpec)

/-- ITS FALSE NEIGHBOUR: 'it returns false'. Refute it at one input. -/
def logRenewalWrong : ChangeSpec := { name := "logRenewal", fn := fun _ => fun
  | [d1, d2] => { results := [.lit (.bool false)], args := [d1, d2] }
  | _ => none }
def LogRenewalWrongFalsely : Prop := logRenewalRow.holds Try.pinned (OpenSpec.ofChange logRenewalWrong)

/-- 'ferrysliplaw18.LogSteps': WHATEVER THE INPUT: true; the input reads as it did. -/
def logStepsSpec : ChangeSpec := { name := "logSteps", fn := fun _ => fun
  | [d1, d2, d3] => { results := [.lit (.bool true)], args := [d1, d2, d3] }
  | _ => none }
def logStepsRow : OpenClaim := { program := "ytniioedflegdkaa", sum := "5e7dea62b35c841fa05f104269480ae970fa131b339c56638ff6e360e0ceea54", func := "ferryslip/ferrysliplaw18.LogSteps", spec := "logSteps", inPlace := ["internal/abi.NoEscape", "internal/bytealg.MakeNoZero"], unfollowed := true, recurses := true, apart := false }
def LogStepsSaid : Prop := logStepsRow.holds Try.pinned (OpenSpec.ofChange logStepsSpec)

/-- ITS FALSE NEIGHBOUR: 'it returns false'. Refute it at one input. -/
def logStepsWrong : ChangeSpec := { name := "logSteps", fn := fun _ => fun
  | [d1, d2, d3] => { results := [.lit (.bool false)], args := [d1, d2, d3] }
  | _ => none }
def LogStepsWrongFalsely : Prop := logStepsRow.holds Try.pinned (OpenSpec.ofChange logStepsWrong)

/-- 'ferrysliplaw18.LogKeeps': WHATEVER THE INPUT: true; the input reads as it did. -/
def logKeepsSpec : ChangeSpec := { name := "logKeeps", fn := fun _ => fun
  | [d1, d2] => { results := [.lit (.bool true)], args := [d1, d2] }
  | _ => none }
def logKeepsRow : OpenClaim := { program := "ytniioedflegdkaa", sum := "5e7dea62b35c841fa05f104269480ae970fa131b339c56638ff6e360e0ceea54", func := "ferryslip/ferrysliplaw18.LogKeeps", spec := "logKeeps", inPlace := ["internal/abi.NoEscape", "internal/bytealg.MakeNoZero"], unfollowed := true, recurses := true, apart := false }
def LogKeepsSaid : Prop := logKeepsRow.holds Try.pinned (OpenSpec.ofChange logKeepsSpec)

/-- ITS FALSE NEIGHBOUR: 'it returns false'. Refute it at one input. -/
def logKeepsWrong : ChangeSpec := { name := "logKeeps", fn := fun _ => fun
  | [d1, d2] => { results := [.lit (.bool false)], args := [d1, d2] }
  | _ => none }
def LogKeepsWrongFalsely : Prop := logKeepsRow.holds Try.pinned (OpenSpec.ofChange logKeepsWrong)

/-- 'ferrysliplaw18.LogGoes': WHATEVER THE INPUT: true; the input reads as it did. -/
def logGoesSpec : ChangeSpec := { name := "logGoes", fn := fun _ => fun
  | [d1, d2, d3] => { results := [.lit (.bool true)], args := [d1, d2, d3] }
  | _ => none }
def logGoesRow : OpenClaim := { program := "ytniioedflegdkaa", sum := "5e7dea62b35c841fa05f104269480ae970fa131b339c56638ff6e360e0ceea54", func := "ferryslip/ferrysliplaw18.LogGoes", spec := "logGoes", inPlace := ["internal/abi.NoEscape", "internal/bytealg.MakeNoZero"], unfollowed := true, recurses := true, apart := false }
def LogGoesSaid : Prop := logGoesRow.holds Try.pinned (OpenSpec.ofChange logGoesSpec)

/-- ITS FALSE NEIGHBOUR: 'it returns false'. Refute it at one input. -/
def logGoesWrong : ChangeSpec := { name := "logGoes", fn := fun _ => fun
  | [d1, d2, d3] => { results := [.lit (.bool false)], args := [d1, d2, d3] }
  | _ => none }
def LogGoesWrongFalsely : Prop := logGoesRow.holds Try.pinned (OpenSpec.ofChange logGoesWrong)

/-- 'ferrysliplaw19.KeepExact': WHATEVER THE INPUT: true; the input reads as it did. -/
def keepExactSpec : ChangeSpec := { name := "keepExact", fn := fun _ => fun
  | [d1, d2] => { results := [.lit (.bool true)], args := [d1, d2] }
  | _ => none }
def keepExactRow : OpenClaim := { program := "ytniioedflegdkaa", sum := "5e7dea62b35c841fa05f104269480ae970fa131b339c56638ff6e360e0ceea54", func := "ferryslip/ferrysliplaw19.KeepExact", spec := "keepExact", inPlace := ["internal/abi.NoEscape", "internal/bytealg.MakeNoZero"], unfollowed := true, recurses := true, apart := false }
def KeepExactSaid : Prop := keepExactRow.holds Try.pinned (OpenSpec.ofChange keepExactSpec)

/-- ITS FALSE NEIGHBOUR: 'it returns false'. Refute it at one input. -/
def keepExactWrong : ChangeSpec := { name := "keepExact", fn := fun _ => fun
  | [d1, d2] => { results := [.lit (.bool false)], args := [d1, d2] }
  | _ => none }
def KeepExactWrongFalsely : Prop := keepExactRow.holds Try.pinned (OpenSpec.ofChange keepExactWrong)

/-- 'ferrysliplaw19.KeepRoom': WHATEVER THE INPUT: true; the input reads as it did. -/
def keepRoomSpec : ChangeSpec := { name := "keepRoom", fn := fun _ => fun
  | [d1, d2] => { results := [.lit (.bool true)], args := [d1, d2] }
  | _ => none }
def keepRoomRow : OpenClaim := { program := "ytniioedflegdkaa", sum := "5e7dea62b35c841fa05f104269480ae970fa131b339c56638ff6e360e0ceea54", func := "ferryslip/ferrysliplaw19.KeepRoom", spec := "keepRoom", inPlace := ["internal/abi.NoEscape", "internal/bytealg.MakeNoZero"], unfollowed := true, recurses := true, apart := false }
def KeepRoomSaid : Prop := keepRoomRow.holds Try.pinned (OpenSpec.ofChange keepRoomSpec)

/-- ITS FALSE NEIGHBOUR: 'it returns false'. Refute it at one input. -/
def keepRoomWrong : ChangeSpec := { name := "keepRoom", fn := fun _ => fun
  | [d1, d2] => { results := [.lit (.bool false)], args := [d1, d2] }
  | _ => none }
def KeepRoomWrongFalsely : Prop := keepRoomRow.holds Try.pinned (OpenSpec.ofChange keepRoomWrong)

/-- 'ferrysliplaw19.KeepNumbers': WHATEVER THE INPUT: true; the input reads as it did. -/
def keepNumbersSpec : ChangeSpec := { name := "keepNumbers", fn := fun _ => fun
  | [d1, d2] => { results := [.lit (.bool true)], args := [d1, d2] }
  | _ => none }
def keepNumbersRow : OpenClaim := { program := "ytniioedflegdkaa", sum := "5e7dea62b35c841fa05f104269480ae970fa131b339c56638ff6e360e0ceea54", func := "ferryslip/ferrysliplaw19.KeepNumbers", spec := "keepNumbers", inPlace := ["internal/abi.NoEscape", "internal/bytealg.MakeNoZero"], unfollowed := true, recurses := true, apart := false }
def KeepNumbersSaid : Prop := keepNumbersRow.holds Try.pinned (OpenSpec.ofChange keepNumbersSpec)

/-- ITS FALSE NEIGHBOUR: 'it returns false'. Refute it at one input. -/
def keepNumbersWrong : ChangeSpec := { name := "keepNumbers", fn := fun _ => fun
  | [d1, d2] => { results := [.lit (.bool false)], args := [d1, d2] }
  | _ => none }
def KeepNumbersWrongFalsely : Prop := keepNumbersRow.holds Try.pinned (OpenSpec.ofChange keepNumbersWrong)

/-- 'ferrysliplaw19.KeepCrash': WHATEVER THE INPUT: true; the input reads as it did. -/
def keepCrashSpec : ChangeSpec := { name := "keepCrash", fn := fun _ => fun
  | [d1, d2] => { results := [.lit (.bool true)], args := [d1, d2] }
  | _ => none }
def keepCrashRow : OpenClaim := { program := "ytniioedflegdkaa", sum := "5e7dea62b35c841fa05f104269480ae970fa131b339c56638ff6e360e0ceea54", func := "ferryslip/ferrysliplaw19.KeepCrash", spec := "keepCrash", inPlace := ["internal/abi.NoEscape", "internal/bytealg.MakeNoZero"], unfollowed := true, recurses := true, apart := false }
def KeepCrashSaid : Prop := keepCrashRow.holds Try.pinned (OpenSpec.ofChange keepCrashSpec)

/-- ITS FALSE NEIGHBOUR: 'it returns false'. Refute it at one input. -/
def keepCrashWrong : ChangeSpec := { name := "keepCrash", fn := fun _ => fun
  | [d1, d2] => { results := [.lit (.bool false)], args := [d1, d2] }
  | _ => none }
def KeepCrashWrongFalsely : Prop := keepCrashRow.holds Try.pinned (OpenSpec.ofChange keepCrashWrong)

/-- 'ferrysliplaw19.KeepAgain': WHATEVER THE INPUT: true; the input reads as it did. -/
def keepAgainSpec : ChangeSpec := { name := "keepAgain", fn := fun _ => fun
  | [d1, d2, d3] => { results := [.lit (.bool true)], args := [d1, d2, d3] }
  | _ => none }
def keepAgainRow : OpenClaim := { program := "ytniioedflegdkaa", sum := "5e7dea62b35c841fa05f104269480ae970fa131b339c56638ff6e360e0ceea54", func := "ferryslip/ferrysliplaw19.KeepAgain", spec := "keepAgain", inPlace := ["internal/abi.NoEscape", "internal/bytealg.MakeNoZero"], unfollowed := true, recurses := true, apart := false }
def KeepAgainSaid : Prop := keepAgainRow.holds Try.pinned (OpenSpec.ofChange keepAgainSpec)

/-- ITS FALSE NEIGHBOUR: 'it returns false'. Refute it at one input. -/
def keepAgainWrong : ChangeSpec := { name := "keepAgain", fn := fun _ => fun
  | [d1, d2, d3] => { results := [.lit (.bool false)], args := [d1, d2, d3] }
  | _ => none }
def KeepAgainWrongFalsely : Prop := keepAgainRow.holds Try.pinned (OpenSpec.ofChange keepAgainWrong)

/- THE SECOND FORM. 'bulk': how many values and letters a reading holds, each counted each time it is reached (what is shared counts as often as it is met; a slice's spare places count too). A statement '..UptoSaid' is the law's where the arguments, and the package variables that the reading takes, are together of bulk at most 1048576: NARROWER than '..Said'. Prove '..Said' where nothing that the law and all that it calls make is longer than what came in: it says more and counts as full. Else prove '..UptoSaid'. A law counts once. -/
mutual
def uptoBulk {H : Type} : DataW H → Nat
  | .lit (.string bytes) => bytes.length + 1
  | .lit _ => 1
  | .nil => 1
  | .ptr d => uptoBulk d + 1
  | .slice elems spare => uptoBulkAll elems + uptoBulkAll spare + 1
  | .agg parts => uptoBulkAll parts + 1
  | .iface _ d => uptoBulk d + 1
  | .map entries => uptoBulkEntries entries + 1
  | .held _ => 1
def uptoBulkAll {H : Type} : List (DataW H) → Nat
  | [] => 0
  | d :: r => uptoBulk d + uptoBulkAll r
def uptoBulkEntries {H : Type} : List (Lit × DataW H) → Nat
  | [] => 0
  | x :: r => uptoBulkEntry x + uptoBulkEntries r
def uptoBulkEntry {H : Type} : Lit × DataW H → Nat
  | (.string bytes, d) => bytes.length + uptoBulk d + 1
  | (_, d) => uptoBulk d + 1
 end
def uptoSmall : (H : Type) → List (DataW H) → Bool := fun _ ds => decide (uptoBulkAll ds ≤ 1048576)
def OpenSpec.upto (s : _root_.Go.ChangeSpec) : _root_.Go.OpenSpec := { _root_.Go.OpenSpec.ofChange s with cond := some uptoSmall }

/-- 'ferrysliplaw18.LogExact', WHERE WHAT IT READS IS OF BULK AT MOST 1048576: true; the input reads as it did. -/
def logExactUptoRow : OpenClaim := { program := "ytniioedflegdkaa", sum := "5e7dea62b35c841fa05f104269480ae970fa131b339c56638ff6e360e0ceea54", func := "ferryslip/ferrysliplaw18.LogExact", spec := "logExact", inPlace := ["internal/abi.NoEscape", "internal/bytealg.MakeNoZero"], unfollowed := true, recurses := true, apart := false, narrowed := true }
def LogExactUptoSaid : Prop := logExactUptoRow.holds Try.pinned (OpenSpec.upto logExactSpec)

/-- 'ferrysliplaw18.LogRenewal', WHERE WHAT IT READS IS OF BULK AT MOST 1048576: true; the input reads as it did. -/
def logRenewalUptoRow : OpenClaim := { program := "ytniioedflegdkaa", sum := "5e7dea62b35c841fa05f104269480ae970fa131b339c56638ff6e360e0ceea54", func := "ferryslip/ferrysliplaw18.LogRenewal", spec := "logRenewal", inPlace := ["internal/abi.NoEscape", "internal/bytealg.MakeNoZero"], unfollowed := true, recurses := true, apart := false, narrowed := true }
def LogRenewalUptoSaid : Prop := logRenewalUptoRow.holds Try.pinned (OpenSpec.upto logRenewalSpec)

/-- 'ferrysliplaw18.LogSteps', WHERE WHAT IT READS IS OF BULK AT MOST 1048576: true; the input reads as it did. -/
def logStepsUptoRow : OpenClaim := { program := "ytniioedflegdkaa", sum := "5e7dea62b35c841fa05f104269480ae970fa131b339c56638ff6e360e0ceea54", func := "ferryslip/ferrysliplaw18.LogSteps", spec := "logSteps", inPlace := ["internal/abi.NoEscape", "internal/bytealg.MakeNoZero"], unfollowed := true, recurses := true, apart := false, narrowed := true }
def LogStepsUptoSaid : Prop := logStepsUptoRow.holds Try.pinned (OpenSpec.upto logStepsSpec)

/-- 'ferrysliplaw18.LogKeeps', WHERE WHAT IT READS IS OF BULK AT MOST 1048576: true; the input reads as it did. -/
def logKeepsUptoRow : OpenClaim := { program := "ytniioedflegdkaa", sum := "5e7dea62b35c841fa05f104269480ae970fa131b339c56638ff6e360e0ceea54", func := "ferryslip/ferrysliplaw18.LogKeeps", spec := "logKeeps", inPlace := ["internal/abi.NoEscape", "internal/bytealg.MakeNoZero"], unfollowed := true, recurses := true, apart := false, narrowed := true }
def LogKeepsUptoSaid : Prop := logKeepsUptoRow.holds Try.pinned (OpenSpec.upto logKeepsSpec)

/-- 'ferrysliplaw18.LogGoes', WHERE WHAT IT READS IS OF BULK AT MOST 1048576: true; the input reads as it did. -/
def logGoesUptoRow : OpenClaim := { program := "ytniioedflegdkaa", sum := "5e7dea62b35c841fa05f104269480ae970fa131b339c56638ff6e360e0ceea54", func := "ferryslip/ferrysliplaw18.LogGoes", spec := "logGoes", inPlace := ["internal/abi.NoEscape", "internal/bytealg.MakeNoZero"], unfollowed := true, recurses := true, apart := false, narrowed := true }
def LogGoesUptoSaid : Prop := logGoesUptoRow.holds Try.pinned (OpenSpec.upto logGoesSpec)

/-- 'ferrysliplaw19.KeepExact', WHERE WHAT IT READS IS OF BULK AT MOST 1048576: true; the input reads as it did. -/
def keepExactUptoRow : OpenClaim := { program := "ytniioedflegdkaa", sum := "5e7dea62b35c841fa05f104269480ae970fa131b339c56638ff6e360e0ceea54", func := "ferryslip/ferrysliplaw19.KeepExact", spec := "keepExact", inPlace := ["internal/abi.NoEscape", "internal/bytealg.MakeNoZero"], unfollowed := true, recurses := true, apart := false, narrowed := true }
def KeepExactUptoSaid : Prop := keepExactUptoRow.holds Try.pinned (OpenSpec.upto keepExactSpec)

/-- 'ferrysliplaw19.KeepRoom', WHERE WHAT IT READS IS OF BULK AT MOST 1048576: true; the input reads as it did. -/
def keepRoomUptoRow : OpenClaim := { program := "ytniioedflegdkaa", sum := "5e7dea62b35c841fa05f104269480ae970fa131b339c56638ff6e360e0ceea54", func := "ferryslip/ferrysliplaw19.KeepRoom", spec := "keepRoom", inPlace := ["internal/abi.NoEscape", "internal/bytealg.MakeNoZero"], unfollowed := true, recurses := true, apart := false, narrowed := true }
def KeepRoomUptoSaid : Prop := keepRoomUptoRow.holds Try.pinned (OpenSpec.upto keepRoomSpec)

/-- 'ferrysliplaw19.KeepNumbers', WHERE WHAT IT READS IS OF BULK AT MOST 1048576: true; the input reads as it did. -/
def keepNumbersUptoRow : OpenClaim := { program := "ytniioedflegdkaa", sum := "5e7dea62b35c841fa05f104269480ae970fa131b339c56638ff6e360e0ceea54", func := "ferryslip/ferrysliplaw19.KeepNumbers", spec := "keepNumbers", inPlace := ["internal/abi.NoEscape", "internal/bytealg.MakeNoZero"], unfollowed := true, recurses := true, apart := false, narrowed := true }
def KeepNumbersUptoSaid : Prop := keepNumbersUptoRow.holds Try.pinned (OpenSpec.upto keepNumbersSpec)

/-- 'ferrysliplaw19.KeepCrash', WHERE WHAT IT READS IS OF BULK AT MOST 1048576: true; the input reads as it did. -/
def keepCrashUptoRow : OpenClaim := { program := "ytniioedflegdkaa", sum := "5e7dea62b35c841fa05f104269480ae970fa131b339c56638ff6e360e0ceea54", func := "ferryslip/ferrysliplaw19.KeepCrash", spec := "keepCrash", inPlace := ["internal/abi.NoEscape", "internal/bytealg.MakeNoZero"], unfollowed := true, recurses := true, apart := false, narrowed := true }
def KeepCrashUptoSaid : Prop := keepCrashUptoRow.holds Try.pinned (OpenSpec.upto keepCrashSpec)

/-- 'ferrysliplaw19.KeepAgain', WHERE WHAT IT READS IS OF BULK AT MOST 1048576: true; the input reads as it did. -/
def keepAgainUptoRow : OpenClaim := { program := "ytniioedflegdkaa", sum := "5e7dea62b35c841fa05f104269480ae970fa131b339c56638ff6e360e0ceea54", func := "ferryslip/ferrysliplaw19.KeepAgain", spec := "keepAgain", inPlace := ["internal/abi.NoEscape", "internal/bytealg.MakeNoZero"], unfollowed := true, recurses := true, apart := false, narrowed := true }
def KeepAgainUptoSaid : Prop := keepAgainUptoRow.holds Try.pinned (OpenSpec.upto keepAgainSpec)

end Rows
end Go.Proofs.Ytniioedflegdkaa
