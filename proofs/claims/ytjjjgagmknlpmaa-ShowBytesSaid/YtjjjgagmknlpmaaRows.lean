/-
  No cell of these rows narrows 'for every input' (looked for: loops, veiled, ifaces, maps, wideKeys, modest, calm, conditions, laid).
  DERIVED. THE GIVEN ROWS OF THIS SEAT. 6 by the template 'for every input the law returns true; each argument reads behind the call as it read before'; 0 by the template 'total and deterministic' (their statements: YtjjjgagmknlpmaaTotals.lean).
  GIVEN WITH THE SEED: the statements are not yours to turn. If you find one false, say at which input.
  Laid BY PROGRAM, IN A SANDBOX (cutbox-rows.mjs): the forced cells as the released guide's own fill.sh prints them over the translation 31a17ecb13ab2549… (all of the seat's roots in one cut). By AI agents, Wed Nov 11 2026. No macro, syntax, notation, axiom, sorry.
-/
import Derived.Test.YtjjjgagmknlpmaaChecked
import GoSem.Claim
import GoSem.ClaimJoined
import GoSem.ClaimMapViews
import Derived.JoinedTies
import Derived.KernelRfl
namespace Go.Proofs.Ytjjjgagmknlpmaa
/- THE CELL 'sum', in the pinned program and in every row, IS THE sha256 OF THE DUMP (.gsa) THAT YtjjjgagmknlpmaaProg.lean LOADS. Nothing in Lean hashes anything: it is a label: what it is worth is what the hold of that sum in a sandbox is worth. -/
noncomputable def Try.pinned : Pinned := { name := "ytjjjgagmknlpmaa", sum := "31a17ecb13ab2549746f8d4dfb120ebeb749dd7797b8bac4f38739e48a800b59", checked := Try.checked }
namespace Rows
def none {H : Type} : Left H := { results := [], args := [] }

/-- 'ferrysliplaw04.ShowTexts': WHATEVER THE INPUT: true; the input reads as it did. -/
def showTextsSpec : ChangeSpec := { name := "showTexts", fn := fun _ => fun
  | [d1, d2] => { results := [.lit (.bool true)], args := [d1, d2] }
  | _ => none }
def showTextsRow : OpenClaim := { program := "ytjjjgagmknlpmaa", sum := "31a17ecb13ab2549746f8d4dfb120ebeb749dd7797b8bac4f38739e48a800b59", func := "ferryslip/ferrysliplaw04.ShowTexts", spec := "showTexts", inPlace := ["internal/bytealg.IndexByteString", "internal/abi.NoEscape", "internal/bytealg.MakeNoZero"], apart := false }
def ShowTextsSaid : Prop := showTextsRow.holds Try.pinned (OpenSpec.ofChange showTextsSpec)

/-- ITS FALSE NEIGHBOUR: 'it returns false'. Refute it at one input. -/
def showTextsWrong : ChangeSpec := { name := "showTexts", fn := fun _ => fun
  | [d1, d2] => { results := [.lit (.bool false)], args := [d1, d2] }
  | _ => none }
def ShowTextsWrongFalsely : Prop := showTextsRow.holds Try.pinned (OpenSpec.ofChange showTextsWrong)

/-- 'ferrysliplaw04.ShowApart': WHATEVER THE INPUT: true; the input reads as it did. -/
def showApartSpec : ChangeSpec := { name := "showApart", fn := fun _ => fun
  | [d1, d2] => { results := [.lit (.bool true)], args := [d1, d2] }
  | _ => none }
def showApartRow : OpenClaim := { program := "ytjjjgagmknlpmaa", sum := "31a17ecb13ab2549746f8d4dfb120ebeb749dd7797b8bac4f38739e48a800b59", func := "ferryslip/ferrysliplaw04.ShowApart", spec := "showApart", inPlace := ["internal/bytealg.IndexByteString", "internal/abi.NoEscape", "internal/bytealg.MakeNoZero"], apart := false }
def ShowApartSaid : Prop := showApartRow.holds Try.pinned (OpenSpec.ofChange showApartSpec)

/-- ITS FALSE NEIGHBOUR: 'it returns false'. Refute it at one input. -/
def showApartWrong : ChangeSpec := { name := "showApart", fn := fun _ => fun
  | [d1, d2] => { results := [.lit (.bool false)], args := [d1, d2] }
  | _ => none }
def ShowApartWrongFalsely : Prop := showApartRow.holds Try.pinned (OpenSpec.ofChange showApartWrong)

/-- 'ferrysliplaw04.ShowBytes': WHATEVER THE INPUT: true; the input reads as it did. -/
def showBytesSpec : ChangeSpec := { name := "showBytes", fn := fun _ => fun
  | [d] => { results := [.lit (.bool true)], args := [d] }
  | _ => none }
def showBytesRow : OpenClaim := { program := "ytjjjgagmknlpmaa", sum := "31a17ecb13ab2549746f8d4dfb120ebeb749dd7797b8bac4f38739e48a800b59", func := "ferryslip/ferrysliplaw04.ShowBytes", spec := "showBytes", inPlace := ["internal/bytealg.IndexByteString", "internal/abi.NoEscape", "internal/bytealg.MakeNoZero"], apart := false }
def ShowBytesSaid : Prop := showBytesRow.holds Try.pinned (OpenSpec.ofChange showBytesSpec)

/-- ITS FALSE NEIGHBOUR: 'it returns false'. Refute it at one input. -/
def showBytesWrong : ChangeSpec := { name := "showBytes", fn := fun _ => fun
  | [d] => { results := [.lit (.bool false)], args := [d] }
  | _ => none }
def ShowBytesWrongFalsely : Prop := showBytesRow.holds Try.pinned (OpenSpec.ofChange showBytesWrong)

/-- 'ferrysliplaw04.ShowMarked': WHATEVER THE INPUT: true; the input reads as it did. -/
def showMarkedSpec : ChangeSpec := { name := "showMarked", fn := fun _ => fun
  | [d1, d2] => { results := [.lit (.bool true)], args := [d1, d2] }
  | _ => none }
def showMarkedRow : OpenClaim := { program := "ytjjjgagmknlpmaa", sum := "31a17ecb13ab2549746f8d4dfb120ebeb749dd7797b8bac4f38739e48a800b59", func := "ferryslip/ferrysliplaw04.ShowMarked", spec := "showMarked", inPlace := ["internal/bytealg.IndexByteString", "internal/abi.NoEscape", "internal/bytealg.MakeNoZero"], apart := false }
def ShowMarkedSaid : Prop := showMarkedRow.holds Try.pinned (OpenSpec.ofChange showMarkedSpec)

/-- ITS FALSE NEIGHBOUR: 'it returns false'. Refute it at one input. -/
def showMarkedWrong : ChangeSpec := { name := "showMarked", fn := fun _ => fun
  | [d1, d2] => { results := [.lit (.bool false)], args := [d1, d2] }
  | _ => none }
def ShowMarkedWrongFalsely : Prop := showMarkedRow.holds Try.pinned (OpenSpec.ofChange showMarkedWrong)

/-- 'ferrysliplaw04.ShowRows': WHATEVER THE INPUT: true; the input reads as it did. -/
def showRowsSpec : ChangeSpec := { name := "showRows", fn := fun _ => fun
  | [d] => { results := [.lit (.bool true)], args := [d] }
  | _ => none }
def showRowsRow : OpenClaim := { program := "ytjjjgagmknlpmaa", sum := "31a17ecb13ab2549746f8d4dfb120ebeb749dd7797b8bac4f38739e48a800b59", func := "ferryslip/ferrysliplaw04.ShowRows", spec := "showRows", inPlace := ["internal/bytealg.IndexByteString", "internal/abi.NoEscape", "internal/bytealg.MakeNoZero"], apart := false }
def ShowRowsSaid : Prop := showRowsRow.holds Try.pinned (OpenSpec.ofChange showRowsSpec)

/-- ITS FALSE NEIGHBOUR: 'it returns false'. Refute it at one input. -/
def showRowsWrong : ChangeSpec := { name := "showRows", fn := fun _ => fun
  | [d] => { results := [.lit (.bool false)], args := [d] }
  | _ => none }
def ShowRowsWrongFalsely : Prop := showRowsRow.holds Try.pinned (OpenSpec.ofChange showRowsWrong)

/-- 'ferrysliplaw04.ShowParts': WHATEVER THE INPUT: true; the input reads as it did. -/
def showPartsSpec : ChangeSpec := { name := "showParts", fn := fun _ => fun
  | [d] => { results := [.lit (.bool true)], args := [d] }
  | _ => none }
def showPartsRow : OpenClaim := { program := "ytjjjgagmknlpmaa", sum := "31a17ecb13ab2549746f8d4dfb120ebeb749dd7797b8bac4f38739e48a800b59", func := "ferryslip/ferrysliplaw04.ShowParts", spec := "showParts", inPlace := ["internal/bytealg.IndexByteString", "internal/abi.NoEscape", "internal/bytealg.MakeNoZero"], apart := false }
def ShowPartsSaid : Prop := showPartsRow.holds Try.pinned (OpenSpec.ofChange showPartsSpec)

/-- ITS FALSE NEIGHBOUR: 'it returns false'. Refute it at one input. -/
def showPartsWrong : ChangeSpec := { name := "showParts", fn := fun _ => fun
  | [d] => { results := [.lit (.bool false)], args := [d] }
  | _ => none }
def ShowPartsWrongFalsely : Prop := showPartsRow.holds Try.pinned (OpenSpec.ofChange showPartsWrong)

/- THE SECOND FORM. 'bulk': how many values and letters a reading holds, each counted each time it is reached (what is shared counts as often as it is met; a slice's spare places count too). A statement '..UptoSaid' is the law's where the arguments, and the package variables that the reading takes, are together of bulk at most 1048576: NARROWER than '..Said'. Prove '..Said' where nothing that the law and all that it calls make is longer than what came in: it says more and counts as full. Else prove '..UptoSaid'. A law counts once. -/
mutual
def uptoBulk {H : Type} : DataW H → Nat
  | .lit (.string bytes) => bytes.length + 1
  | .lit _ => 1
  | .nil => 1
  | .ptr d => uptoBulk d + 1
  | .slice elems spare => uptoBulkAll elems + uptoBulkAll spare + 1
  | .agg parts => uptoBulkAll parts + 1
  | .iface _ d => uptoBulk d + 1
  | .map entries => uptoBulkEntries entries + 1
  | .held _ => 1
def uptoBulkAll {H : Type} : List (DataW H) → Nat
  | [] => 0
  | d :: r => uptoBulk d + uptoBulkAll r
def uptoBulkEntries {H : Type} : List (Lit × DataW H) → Nat
  | [] => 0
  | x :: r => uptoBulkEntry x + uptoBulkEntries r
def uptoBulkEntry {H : Type} : Lit × DataW H → Nat
  | (.string bytes, d) => bytes.length + uptoBulk d + 1
  | (_, d) => uptoBulk d + 1
 end
def uptoSmall : (H : Type) → List (DataW H) → Bool := fun _ ds => decide (uptoBulkAll ds ≤ 1048576)
def OpenSpec.upto (s : _root_.Go.ChangeSpec) : _root_.Go.OpenSpec := { _root_.Go.OpenSpec.ofChange s with cond := some uptoSmall }

/-- 'ferrysliplaw04.ShowTexts', WHERE WHAT IT READS IS OF BULK AT MOST 1048576: true; the input reads as it did. -/
def showTextsUptoRow : OpenClaim := { program := "ytjjjgagmknlpmaa", sum := "31a17ecb13ab2549746f8d4dfb120ebeb749dd7797b8bac4f38739e48a800b59", func := "ferryslip/ferrysliplaw04.ShowTexts", spec := "showTexts", inPlace := ["internal/bytealg.IndexByteString", "internal/abi.NoEscape", "internal/bytealg.MakeNoZero"], apart := false, narrowed := true }
def ShowTextsUptoSaid : Prop := showTextsUptoRow.holds Try.pinned (OpenSpec.upto showTextsSpec)

/-- 'ferrysliplaw04.ShowApart', WHERE WHAT IT READS IS OF BULK AT MOST 1048576: true; the input reads as it did. -/
def showApartUptoRow : OpenClaim := { program := "ytjjjgagmknlpmaa", sum := "31a17ecb13ab2549746f8d4dfb120ebeb749dd7797b8bac4f38739e48a800b59", func := "ferryslip/ferrysliplaw04.ShowApart", spec := "showApart", inPlace := ["internal/bytealg.IndexByteString", "internal/abi.NoEscape", "internal/bytealg.MakeNoZero"], apart := false, narrowed := true }
def ShowApartUptoSaid : Prop := showApartUptoRow.holds Try.pinned (OpenSpec.upto showApartSpec)

/-- 'ferrysliplaw04.ShowBytes', WHERE WHAT IT READS IS OF BULK AT MOST 1048576: true; the input reads as it did. -/
def showBytesUptoRow : OpenClaim := { program := "ytjjjgagmknlpmaa", sum := "31a17ecb13ab2549746f8d4dfb120ebeb749dd7797b8bac4f38739e48a800b59", func := "ferryslip/ferrysliplaw04.ShowBytes", spec := "showBytes", inPlace := ["internal/bytealg.IndexByteString", "internal/abi.NoEscape", "internal/bytealg.MakeNoZero"], apart := false, narrowed := true }
def ShowBytesUptoSaid : Prop := showBytesUptoRow.holds Try.pinned (OpenSpec.upto showBytesSpec)

/-- 'ferrysliplaw04.ShowMarked', WHERE WHAT IT READS IS OF BULK AT MOST 1048576: true; the input reads as it did. -/
def showMarkedUptoRow : OpenClaim := { program := "ytjjjgagmknlpmaa", sum := "31a17ecb13ab2549746f8d4dfb120ebeb749dd7797b8bac4f38739e48a800b59", func := "ferryslip/ferrysliplaw04.ShowMarked", spec := "showMarked", inPlace := ["internal/bytealg.IndexByteString", "internal/abi.NoEscape", "internal/bytealg.MakeNoZero"], apart := false, narrowed := true }
def ShowMarkedUptoSaid : Prop := showMarkedUptoRow.holds Try.pinned (OpenSpec.upto showMarkedSpec)

/-- 'ferrysliplaw04.ShowRows', WHERE WHAT IT READS IS OF BULK AT MOST 1048576: true; the input reads as it did. -/
def showRowsUptoRow : OpenClaim := { program := "ytjjjgagmknlpmaa", sum := "31a17ecb13ab2549746f8d4dfb120ebeb749dd7797b8bac4f38739e48a800b59", func := "ferryslip/ferrysliplaw04.ShowRows", spec := "showRows", inPlace := ["internal/bytealg.IndexByteString", "internal/abi.NoEscape", "internal/bytealg.MakeNoZero"], apart := false, narrowed := true }
def ShowRowsUptoSaid : Prop := showRowsUptoRow.holds Try.pinned (OpenSpec.upto showRowsSpec)

/-- 'ferrysliplaw04.ShowParts', WHERE WHAT IT READS IS OF BULK AT MOST 1048576: true; the input reads as it did. -/
def showPartsUptoRow : OpenClaim := { program := "ytjjjgagmknlpmaa", sum := "31a17ecb13ab2549746f8d4dfb120ebeb749dd7797b8bac4f38739e48a800b59", func := "ferryslip/ferrysliplaw04.ShowParts", spec := "showParts", inPlace := ["internal/bytealg.IndexByteString", "internal/abi.NoEscape", "internal/bytealg.MakeNoZero"], apart := false, narrowed := true }
def ShowPartsUptoSaid : Prop := showPartsUptoRow.holds Try.pinned (OpenSpec.upto showPartsSpec)

end Rows
end Go.Proofs.Ytjjjgagmknlpmaa
