/-
  No cell of these rows narrows 'for every input' (looked for: loops, veiled, ifaces, maps, wideKeys, modest, calm, conditions, laid).
  DERIVED. THE GIVEN ROWS OF THIS SEAT. 7 by the template 'for every input the law returns true; each argument reads behind the call as it read before'; 0 by the template 'total and deterministic' (their statements: YtcnemnehjpaggaaTotals.lean).
  GIVEN WITH THE SEED: the statements are not yours to turn. If you find one false, say at which input.
  Laid BY PROGRAM, IN A SANDBOX (cutbox-rows.mjs): the forced cells as the released guide's own fill.sh prints them over the translation cb09790abbc3d68b… (all of the seat's roots in one cut). By AI agents, Wed Nov 11 2026. No macro, syntax, notation, axiom, sorry.
-/
import Derived.Test.YtcnemnehjpaggaaChecked
import GoSem.Claim
import GoSem.ClaimJoined
import GoSem.ClaimMapViews
import Derived.JoinedTies
import Derived.KernelRfl
namespace Go.Proofs.Ytcnemnehjpaggaa
/- THE CELL 'sum', in the pinned program and in every row, IS THE sha256 OF THE DUMP (.gsa) THAT YtcnemnehjpaggaaProg.lean LOADS. Nothing in Lean hashes anything: it is a label: what it is worth is what the hold of that sum in a sandbox is worth. -/
noncomputable def Try.pinned : Pinned := { name := "ytcnemnehjpaggaa", sum := "cb09790abbc3d68bddf680faed5c4a28cb2f9d02a8694e2bad32735de6b251b4", checked := Try.checked }
namespace Rows
def none {H : Type} : Left H := { results := [], args := [] }

/-- 'ferrysliplaw17.DiskNew': WHATEVER THE INPUT: true; the input reads as it did. -/
def diskNewSpec : ChangeSpec := { name := "diskNew", fn := fun _ => fun
  | [d] => { results := [.lit (.bool true)], args := [d] }
  | _ => none }
def diskNewRow : OpenClaim := { program := "ytcnemnehjpaggaa", sum := "cb09790abbc3d68bddf680faed5c4a28cb2f9d02a8694e2bad32735de6b251b4", func := "ferryslip/ferrysliplaw17.DiskNew", spec := "diskNew", inPlace := ["internal/abi.NoEscape", "internal/bytealg.MakeNoZero"], unfollowed := true, recurses := true, apart := false }
def DiskNewSaid : Prop := diskNewRow.holds Try.pinned (OpenSpec.ofChange diskNewSpec)

/-- ITS FALSE NEIGHBOUR: 'it returns false'. Refute it at one input. -/
def diskNewWrong : ChangeSpec := { name := "diskNew", fn := fun _ => fun
  | [d] => { results := [.lit (.bool false)], args := [d] }
  | _ => none }
def DiskNewWrongFalsely : Prop := diskNewRow.holds Try.pinned (OpenSpec.ofChange diskNewWrong)

/-- 'ferrysliplaw17.DiskExact': WHATEVER THE INPUT: true; the input reads as it did. -/
def diskExactSpec : ChangeSpec := { name := "diskExact", fn := fun _ => fun
  | [d1, d2, d3, d4] => { results := [.lit (.bool true)], args := [d1, d2, d3, d4] }
  | _ => none }
def diskExactRow : OpenClaim := { program := "ytcnemnehjpaggaa", sum := "cb09790abbc3d68bddf680faed5c4a28cb2f9d02a8694e2bad32735de6b251b4", func := "ferryslip/ferrysliplaw17.DiskExact", spec := "diskExact", inPlace := ["internal/abi.NoEscape", "internal/bytealg.MakeNoZero"], unfollowed := true, recurses := true, apart := false }
def DiskExactSaid : Prop := diskExactRow.holds Try.pinned (OpenSpec.ofChange diskExactSpec)

/-- ITS FALSE NEIGHBOUR: 'it returns false'. Refute it at one input. -/
def diskExactWrong : ChangeSpec := { name := "diskExact", fn := fun _ => fun
  | [d1, d2, d3, d4] => { results := [.lit (.bool false)], args := [d1, d2, d3, d4] }
  | _ => none }
def DiskExactWrongFalsely : Prop := diskExactRow.holds Try.pinned (OpenSpec.ofChange diskExactWrong)

/-- 'ferrysliplaw17.DiskRuns': WHATEVER THE INPUT: true; the input reads as it did. -/
def diskRunsSpec : ChangeSpec := { name := "diskRuns", fn := fun _ => fun
  | [d1, d2, d3] => { results := [.lit (.bool true)], args := [d1, d2, d3] }
  | _ => none }
def diskRunsRow : OpenClaim := { program := "ytcnemnehjpaggaa", sum := "cb09790abbc3d68bddf680faed5c4a28cb2f9d02a8694e2bad32735de6b251b4", func := "ferryslip/ferrysliplaw17.DiskRuns", spec := "diskRuns", inPlace := ["internal/abi.NoEscape", "internal/bytealg.MakeNoZero"], unfollowed := true, recurses := true, apart := false }
def DiskRunsSaid : Prop := diskRunsRow.holds Try.pinned (OpenSpec.ofChange diskRunsSpec)

/-- ITS FALSE NEIGHBOUR: 'it returns false'. Refute it at one input. -/
def diskRunsWrong : ChangeSpec := { name := "diskRuns", fn := fun _ => fun
  | [d1, d2, d3] => { results := [.lit (.bool false)], args := [d1, d2, d3] }
  | _ => none }
def DiskRunsWrongFalsely : Prop := diskRunsRow.holds Try.pinned (OpenSpec.ofChange diskRunsWrong)

/-- 'ferrysliplaw17.DiskCalm': WHATEVER THE INPUT: true; the input reads as it did. -/
def diskCalmSpec : ChangeSpec := { name := "diskCalm", fn := fun _ => fun
  | [d1, d2] => { results := [.lit (.bool true)], args := [d1, d2] }
  | _ => none }
def diskCalmRow : OpenClaim := { program := "ytcnemnehjpaggaa", sum := "cb09790abbc3d68bddf680faed5c4a28cb2f9d02a8694e2bad32735de6b251b4", func := "ferryslip/ferrysliplaw17.DiskCalm", spec := "diskCalm", inPlace := ["internal/abi.NoEscape", "internal/bytealg.MakeNoZero"], unfollowed := true, recurses := true, apart := false }
def DiskCalmSaid : Prop := diskCalmRow.holds Try.pinned (OpenSpec.ofChange diskCalmSpec)

/-- ITS FALSE NEIGHBOUR: 'it returns false'. Refute it at one input. -/
def diskCalmWrong : ChangeSpec := { name := "diskCalm", fn := fun _ => fun
  | [d1, d2] => { results := [.lit (.bool false)], args := [d1, d2] }
  | _ => none }
def DiskCalmWrongFalsely : Prop := diskCalmRow.holds Try.pinned (OpenSpec.ofChange diskCalmWrong)

/-- 'ferrysliplaw17.DiskSplit': WHATEVER THE INPUT: true; the input reads as it did. -/
def diskSplitSpec : ChangeSpec := { name := "diskSplit", fn := fun _ => fun
  | [d1, d2, d3] => { results := [.lit (.bool true)], args := [d1, d2, d3] }
  | _ => none }
def diskSplitRow : OpenClaim := { program := "ytcnemnehjpaggaa", sum := "cb09790abbc3d68bddf680faed5c4a28cb2f9d02a8694e2bad32735de6b251b4", func := "ferryslip/ferrysliplaw17.DiskSplit", spec := "diskSplit", inPlace := ["internal/abi.NoEscape", "internal/bytealg.MakeNoZero"], unfollowed := true, recurses := true, apart := false }
def DiskSplitSaid : Prop := diskSplitRow.holds Try.pinned (OpenSpec.ofChange diskSplitSpec)

/-- ITS FALSE NEIGHBOUR: 'it returns false'. Refute it at one input. -/
def diskSplitWrong : ChangeSpec := { name := "diskSplit", fn := fun _ => fun
  | [d1, d2, d3] => { results := [.lit (.bool false)], args := [d1, d2, d3] }
  | _ => none }
def DiskSplitWrongFalsely : Prop := diskSplitRow.holds Try.pinned (OpenSpec.ofChange diskSplitWrong)

/-- 'ferrysliplaw17.DiskApart': WHATEVER THE INPUT: true; the input reads as it did. -/
def diskApartSpec : ChangeSpec := { name := "diskApart", fn := fun _ => fun
  | [d1, d2, d3] => { results := [.lit (.bool true)], args := [d1, d2, d3] }
  | _ => none }
def diskApartRow : OpenClaim := { program := "ytcnemnehjpaggaa", sum := "cb09790abbc3d68bddf680faed5c4a28cb2f9d02a8694e2bad32735de6b251b4", func := "ferryslip/ferrysliplaw17.DiskApart", spec := "diskApart", inPlace := ["internal/abi.NoEscape", "internal/bytealg.MakeNoZero"], unfollowed := true, recurses := true, apart := false }
def DiskApartSaid : Prop := diskApartRow.holds Try.pinned (OpenSpec.ofChange diskApartSpec)

/-- ITS FALSE NEIGHBOUR: 'it returns false'. Refute it at one input. -/
def diskApartWrong : ChangeSpec := { name := "diskApart", fn := fun _ => fun
  | [d1, d2, d3] => { results := [.lit (.bool false)], args := [d1, d2, d3] }
  | _ => none }
def DiskApartWrongFalsely : Prop := diskApartRow.holds Try.pinned (OpenSpec.ofChange diskApartWrong)

/-- 'ferrysliplaw17.DiskOne': WHATEVER THE INPUT: true; the input reads as it did. -/
def diskOneSpec : ChangeSpec := { name := "diskOne", fn := fun _ => fun
  | [d1, d2] => { results := [.lit (.bool true)], args := [d1, d2] }
  | _ => none }
def diskOneRow : OpenClaim := { program := "ytcnemnehjpaggaa", sum := "cb09790abbc3d68bddf680faed5c4a28cb2f9d02a8694e2bad32735de6b251b4", func := "ferryslip/ferrysliplaw17.DiskOne", spec := "diskOne", inPlace := ["internal/abi.NoEscape", "internal/bytealg.MakeNoZero"], unfollowed := true, recurses := true, apart := false }
def DiskOneSaid : Prop := diskOneRow.holds Try.pinned (OpenSpec.ofChange diskOneSpec)

/-- ITS FALSE NEIGHBOUR: 'it returns false'. Refute it at one input. -/
def diskOneWrong : ChangeSpec := { name := "diskOne", fn := fun _ => fun
  | [d1, d2] => { results := [.lit (.bool false)], args := [d1, d2] }
  | _ => none }
def DiskOneWrongFalsely : Prop := diskOneRow.holds Try.pinned (OpenSpec.ofChange diskOneWrong)

/- THE SECOND FORM. 'bulk': how many values and letters a reading holds, each counted each time it is reached (what is shared counts as often as it is met; a slice's spare places count too). A statement '..UptoSaid' is the law's where the arguments, and the package variables that the reading takes, are together of bulk at most 1048576: NARROWER than '..Said'. Prove '..Said' where nothing that the law and all that it calls make is longer than what came in: it says more and counts as full. Else prove '..UptoSaid'. A law counts once. -/
mutual
def uptoBulk {H : Type} : DataW H → Nat
  | .lit (.string bytes) => bytes.length + 1
  | .lit _ => 1
  | .nil => 1
  | .ptr d => uptoBulk d + 1
  | .slice elems spare => uptoBulkAll elems + uptoBulkAll spare + 1
  | .agg parts => uptoBulkAll parts + 1
  | .iface _ d => uptoBulk d + 1
  | .map entries => uptoBulkEntries entries + 1
  | .held _ => 1
def uptoBulkAll {H : Type} : List (DataW H) → Nat
  | [] => 0
  | d :: r => uptoBulk d + uptoBulkAll r
def uptoBulkEntries {H : Type} : List (Lit × DataW H) → Nat
  | [] => 0
  | x :: r => uptoBulkEntry x + uptoBulkEntries r
def uptoBulkEntry {H : Type} : Lit × DataW H → Nat
  | (.string bytes, d) => bytes.length + uptoBulk d + 1
  | (_, d) => uptoBulk d + 1
 end
def uptoSmall : (H : Type) → List (DataW H) → Bool := fun _ ds => decide (uptoBulkAll ds ≤ 1048576)
def OpenSpec.upto (s : _root_.Go.ChangeSpec) : _root_.Go.OpenSpec := { _root_.Go.OpenSpec.ofChange s with cond := some uptoSmall }

/-- 'ferrysliplaw17.DiskNew', WHERE WHAT IT READS IS OF BULK AT MOST 1048576: true; the input reads as it did. -/
def diskNewUptoRow : OpenClaim := { program := "ytcnemnehjpaggaa", sum := "cb09790abbc3d68bddf680faed5c4a28cb2f9d02a8694e2bad32735de6b251b4", func := "ferryslip/ferrysliplaw17.DiskNew", spec := "diskNew", inPlace := ["internal/abi.NoEscape", "internal/bytealg.MakeNoZero"], unfollowed := true, recurses := true, apart := false, narrowed := true }
def DiskNewUptoSaid : Prop := diskNewUptoRow.holds Try.pinned (OpenSpec.upto diskNewSpec)

/-- 'ferrysliplaw17.DiskExact', WHERE WHAT IT READS IS OF BULK AT MOST 1048576: true; the input reads as it did. -/
def diskExactUptoRow : OpenClaim := { program := "ytcnemnehjpaggaa", sum := "cb09790abbc3d68bddf680faed5c4a28cb2f9d02a8694e2bad32735de6b251b4", func := "ferryslip/ferrysliplaw17.DiskExact", spec := "diskExact", inPlace := ["internal/abi.NoEscape", "internal/bytealg.MakeNoZero"], unfollowed := true, recurses := true, apart := false, narrowed := true }
def DiskExactUptoSaid : Prop := diskExactUptoRow.holds Try.pinned (OpenSpec.upto diskExactSpec)

/-- 'ferrysliplaw17.DiskRuns', WHERE WHAT IT READS IS OF BULK AT MOST 1048576: true; the input reads as it did. -/
def diskRunsUptoRow : OpenClaim := { program := "ytcnemnehjpaggaa", sum := "cb09790abbc3d68bddf680faed5c4a28cb2f9d02a8694e2bad32735de6b251b4", func := "ferryslip/ferrysliplaw17.DiskRuns", spec := "diskRuns", inPlace := ["internal/abi.NoEscape", "internal/bytealg.MakeNoZero"], unfollowed := true, recurses := true, apart := false, narrowed := true }
def DiskRunsUptoSaid : Prop := diskRunsUptoRow.holds Try.pinned (OpenSpec.upto diskRunsSpec)

/-- 'ferrysliplaw17.DiskCalm', WHERE WHAT IT READS IS OF BULK AT MOST 1048576: true; the input reads as it did. -/
def diskCalmUptoRow : OpenClaim := { program := "ytcnemnehjpaggaa", sum := "cb09790abbc3d68bddf680faed5c4a28cb2f9d02a8694e2bad32735de6b251b4", func := "ferryslip/ferrysliplaw17.DiskCalm", spec := "diskCalm", inPlace := ["internal/abi.NoEscape", "internal/bytealg.MakeNoZero"], unfollowed := true, recurses := true, apart := false, narrowed := true }
def DiskCalmUptoSaid : Prop := diskCalmUptoRow.holds Try.pinned (OpenSpec.upto diskCalmSpec)

/-- 'ferrysliplaw17.DiskSplit', WHERE WHAT IT READS IS OF BULK AT MOST 1048576: true; the input reads as it did. -/
def diskSplitUptoRow : OpenClaim := { program := "ytcnemnehjpaggaa", sum := "cb09790abbc3d68bddf680faed5c4a28cb2f9d02a8694e2bad32735de6b251b4", func := "ferryslip/ferrysliplaw17.DiskSplit", spec := "diskSplit", inPlace := ["internal/abi.NoEscape", "internal/bytealg.MakeNoZero"], unfollowed := true, recurses := true, apart := false, narrowed := true }
def DiskSplitUptoSaid : Prop := diskSplitUptoRow.holds Try.pinned (OpenSpec.upto diskSplitSpec)

/-- 'ferrysliplaw17.DiskApart', WHERE WHAT IT READS IS OF BULK AT MOST 1048576: true; the input reads as it did. -/
def diskApartUptoRow : OpenClaim := { program := "ytcnemnehjpaggaa", sum := "cb09790abbc3d68bddf680faed5c4a28cb2f9d02a8694e2bad32735de6b251b4", func := "ferryslip/ferrysliplaw17.DiskApart", spec := "diskApart", inPlace := ["internal/abi.NoEscape", "internal/bytealg.MakeNoZero"], unfollowed := true, recurses := true, apart := false, narrowed := true }
def DiskApartUptoSaid : Prop := diskApartUptoRow.holds Try.pinned (OpenSpec.upto diskApartSpec)

/-- 'ferrysliplaw17.DiskOne', WHERE WHAT IT READS IS OF BULK AT MOST 1048576: true; the input reads as it did. -/
def diskOneUptoRow : OpenClaim := { program := "ytcnemnehjpaggaa", sum := "cb09790abbc3d68bddf680faed5c4a28cb2f9d02a8694e2bad32735de6b251b4", func := "ferryslip/ferrysliplaw17.DiskOne", spec := "diskOne", inPlace := ["internal/abi.NoEscape", "internal/bytealg.MakeNoZero"], unfollowed := true, recurses := true, apart := false, narrowed := true }
def DiskOneUptoSaid : Prop := diskOneUptoRow.holds Try.pinned (OpenSpec.upto diskOneSpec)

end Rows
end Go.Proofs.Ytcnemnehjpaggaa
