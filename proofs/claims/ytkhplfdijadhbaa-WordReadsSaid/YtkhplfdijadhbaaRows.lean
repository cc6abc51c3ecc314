/-
  No cell of these rows narrows 'for every input' (looked for: loops, veiled, ifaces, maps, wideKeys, modest, calm, conditions, laid).
  DERIVED. THE GIVEN ROWS OF THIS SEAT. 6 by the template 'for every input the law returns true; each argument reads behind the call as it read before'; 0 by the template 'total and deterministic' (their statements: YtkhplfdijadhbaaTotals.lean).
  GIVEN WITH THE SEED: the statements are not yours to turn. If you find one false, say at which input.
  Laid BY PROGRAM, IN A SANDBOX (cutbox-rows.mjs): the forced cells as the released guide's own fill.sh prints them over the translation 3eb6c243f216eab9… (all of the seat's roots in one cut). By AI agents, Wed Nov 11 2026. No macro, syntax, notation, axiom, sorry.
-/
import Derived.Test.YtkhplfdijadhbaaChecked
import GoSem.Claim
import GoSem.ClaimJoined
import GoSem.ClaimMapViews
import Derived.JoinedTies
import Derived.KernelRfl
namespace Go.Proofs.Ytkhplfdijadhbaa
/- THE CELL 'sum', in the pinned program and in every row, IS THE sha256 OF THE DUMP (.gsa) THAT YtkhplfdijadhbaaProg.lean LOADS. Nothing in Lean hashes anything: it is a label: what it is worth is what the hold of that sum in a sandbox is worth. -/
noncomputable def Try.pinned : Pinned := { name := "ytkhplfdijadhbaa", sum := "3eb6c243f216eab9a17657686c7b1355d4a88ecb3ff617195b3b8869df934cfb", checked := Try.checked }
namespace Rows
def none {H : Type} : Left H := { results := [], args := [] }

/-- 'ferrysliplaw01.WordQuotes': WHATEVER THE INPUT: true; the input reads as it did. -/
def wordQuotesSpec : ChangeSpec := { name := "wordQuotes", fn := fun _ => fun
  | [d] => { results := [.lit (.bool true)], args := [d] }
  | _ => none }
def wordQuotesRow : OpenClaim := { program := "ytkhplfdijadhbaa", sum := "3eb6c243f216eab9a17657686c7b1355d4a88ecb3ff617195b3b8869df934cfb", func := "ferryslip/ferrysliplaw01.WordQuotes", spec := "wordQuotes", inPlace := ["internal/bytealg.IndexByteString", "internal/abi.NoEscape"], apart := false }
def WordQuotesSaid : Prop := wordQuotesRow.holds Try.pinned (OpenSpec.ofChange wordQuotesSpec)

/-- ITS FALSE NEIGHBOUR: 'it returns false'. Refute it at one input. -/
def wordQuotesWrong : ChangeSpec := { name := "wordQuotes", fn := fun _ => fun
  | [d] => { results := [.lit (.bool false)], args := [d] }
  | _ => none }
def WordQuotesWrongFalsely : Prop := wordQuotesRow.holds Try.pinned (OpenSpec.ofChange wordQuotesWrong)

/-- 'ferrysliplaw01.WordReads': WHATEVER THE INPUT: true; the input reads as it did. -/
def wordReadsSpec : ChangeSpec := { name := "wordReads", fn := fun _ => fun
  | [d1, d2] => { results := [.lit (.bool true)], args := [d1, d2] }
  | _ => none }
def wordReadsRow : OpenClaim := { program := "ytkhplfdijadhbaa", sum := "3eb6c243f216eab9a17657686c7b1355d4a88ecb3ff617195b3b8869df934cfb", func := "ferryslip/ferrysliplaw01.WordReads", spec := "wordReads", inPlace := ["internal/bytealg.IndexByteString", "internal/abi.NoEscape"], apart := false }
def WordReadsSaid : Prop := wordReadsRow.holds Try.pinned (OpenSpec.ofChange wordReadsSpec)

/-- ITS FALSE NEIGHBOUR: 'it returns false'. Refute it at one input. -/
def wordReadsWrong : ChangeSpec := { name := "wordReads", fn := fun _ => fun
  | [d1, d2] => { results := [.lit (.bool false)], args := [d1, d2] }
  | _ => none }
def WordReadsWrongFalsely : Prop := wordReadsRow.holds Try.pinned (OpenSpec.ofChange wordReadsWrong)

/-- 'ferrysliplaw01.WordApart': WHATEVER THE INPUT: true; the input reads as it did. -/
def wordApartSpec : ChangeSpec := { name := "wordApart", fn := fun _ => fun
  | [d1, d2, d3] => { results := [.lit (.bool true)], args := [d1, d2, d3] }
  | _ => none }
def wordApartRow : OpenClaim := { program := "ytkhplfdijadhbaa", sum := "3eb6c243f216eab9a17657686c7b1355d4a88ecb3ff617195b3b8869df934cfb", func := "ferryslip/ferrysliplaw01.WordApart", spec := "wordApart", inPlace := ["internal/bytealg.IndexByteString", "internal/abi.NoEscape"], apart := false }
def WordApartSaid : Prop := wordApartRow.holds Try.pinned (OpenSpec.ofChange wordApartSpec)

/-- ITS FALSE NEIGHBOUR: 'it returns false'. Refute it at one input. -/
def wordApartWrong : ChangeSpec := { name := "wordApart", fn := fun _ => fun
  | [d1, d2, d3] => { results := [.lit (.bool false)], args := [d1, d2, d3] }
  | _ => none }
def WordApartWrongFalsely : Prop := wordApartRow.holds Try.pinned (OpenSpec.ofChange wordApartWrong)

/-- 'ferrysliplaw01.WordBytes': WHATEVER THE INPUT: true; the input reads as it did. -/
def wordBytesSpec : ChangeSpec := { name := "wordBytes", fn := fun _ => fun
  | [d] => { results := [.lit (.bool true)], args := [d] }
  | _ => none }
def wordBytesRow : OpenClaim := { program := "ytkhplfdijadhbaa", sum := "3eb6c243f216eab9a17657686c7b1355d4a88ecb3ff617195b3b8869df934cfb", func := "ferryslip/ferrysliplaw01.WordBytes", spec := "wordBytes", inPlace := ["internal/bytealg.IndexByteString", "internal/abi.NoEscape"], apart := false }
def WordBytesSaid : Prop := wordBytesRow.holds Try.pinned (OpenSpec.ofChange wordBytesSpec)

/-- ITS FALSE NEIGHBOUR: 'it returns false'. Refute it at one input. -/
def wordBytesWrong : ChangeSpec := { name := "wordBytes", fn := fun _ => fun
  | [d] => { results := [.lit (.bool false)], args := [d] }
  | _ => none }
def WordBytesWrongFalsely : Prop := wordBytesRow.holds Try.pinned (OpenSpec.ofChange wordBytesWrong)

/-- 'ferrysliplaw01.WordLong': WHATEVER THE INPUT: true; the input reads as it did. -/
def wordLongSpec : ChangeSpec := { name := "wordLong", fn := fun _ => fun
  | [d] => { results := [.lit (.bool true)], args := [d] }
  | _ => none }
def wordLongRow : OpenClaim := { program := "ytkhplfdijadhbaa", sum := "3eb6c243f216eab9a17657686c7b1355d4a88ecb3ff617195b3b8869df934cfb", func := "ferryslip/ferrysliplaw01.WordLong", spec := "wordLong", inPlace := ["internal/bytealg.IndexByteString", "internal/abi.NoEscape"], apart := false }
def WordLongSaid : Prop := wordLongRow.holds Try.pinned (OpenSpec.ofChange wordLongSpec)

/-- ITS FALSE NEIGHBOUR: 'it returns false'. Refute it at one input. -/
def wordLongWrong : ChangeSpec := { name := "wordLong", fn := fun _ => fun
  | [d] => { results := [.lit (.bool false)], args := [d] }
  | _ => none }
def WordLongWrongFalsely : Prop := wordLongRow.holds Try.pinned (OpenSpec.ofChange wordLongWrong)

/-- 'ferrysliplaw01.WordRow': WHATEVER THE INPUT: true; the input reads as it did. -/
def wordRowSpec : ChangeSpec := { name := "wordRow", fn := fun _ => fun
  | [d] => { results := [.lit (.bool true)], args := [d] }
  | _ => none }
def wordRowRow : OpenClaim := { program := "ytkhplfdijadhbaa", sum := "3eb6c243f216eab9a17657686c7b1355d4a88ecb3ff617195b3b8869df934cfb", func := "ferryslip/ferrysliplaw01.WordRow", spec := "wordRow", inPlace := ["internal/bytealg.IndexByteString", "internal/abi.NoEscape"], apart := false }
def WordRowSaid : Prop := wordRowRow.holds Try.pinned (OpenSpec.ofChange wordRowSpec)

/-- ITS FALSE NEIGHBOUR: 'it returns false'. Refute it at one input. -/
def wordRowWrong : ChangeSpec := { name := "wordRow", fn := fun _ => fun
  | [d] => { results := [.lit (.bool false)], args := [d] }
  | _ => none }
def WordRowWrongFalsely : Prop := wordRowRow.holds Try.pinned (OpenSpec.ofChange wordRowWrong)

/- THE SECOND FORM. 'bulk': how many values and letters a reading holds, each counted each time it is reached (what is shared counts as often as it is met; a slice's spare places count too). A statement '..UptoSaid' is the law's where the arguments, and the package variables that the reading takes, are together of bulk at most 1048576: NARROWER than '..Said'. Prove '..Said' where nothing that the law and all that it calls make is longer than what came in: it says more and counts as full. Else prove '..UptoSaid'. A law counts once. -/
mutual
def uptoBulk {H : Type} : DataW H → Nat
  | .lit (.string bytes) => bytes.length + 1
  | .lit _ => 1
  | .nil => 1
  | .ptr d => uptoBulk d + 1
  | .slice elems spare => uptoBulkAll elems + uptoBulkAll spare + 1
  | .agg parts => uptoBulkAll parts + 1
  | .iface _ d => uptoBulk d + 1
  | .map entries => uptoBulkEntries entries + 1
  | .held _ => 1
def uptoBulkAll {H : Type} : List (DataW H) → Nat
  | [] => 0
  | d :: r => uptoBulk d + uptoBulkAll r
def uptoBulkEntries {H : Type} : List (Lit × DataW H) → Nat
  | [] => 0
  | x :: r => uptoBulkEntry x + uptoBulkEntries r
def uptoBulkEntry {H : Type} : Lit × DataW H → Nat
  | (.string bytes, d) => bytes.length + uptoBulk d + 1
  | (_, d) => uptoBulk d + 1
 end
def uptoSmall : (H : Type) → List (DataW H) → Bool := fun _ ds => decide (uptoBulkAll ds ≤ 1048576)
def OpenSpec.upto (s : _root_.Go.ChangeSpec) : _root_.Go.OpenSpec := { _root_.Go.OpenSpec.ofChange s with cond := some uptoSmall }

/-- 'ferrysliplaw01.WordQuotes', WHERE WHAT IT READS IS OF BULK AT MOST 1048576: true; the input reads as it did. -/
def wordQuotesUptoRow : OpenClaim := { program := "ytkhplfdijadhbaa", sum := "3eb6c243f216eab9a17657686c7b1355d4a88ecb3ff617195b3b8869df934cfb", func := "ferryslip/ferrysliplaw01.WordQuotes", spec := "wordQuotes", inPlace := ["internal/bytealg.IndexByteString", "internal/abi.NoEscape"], apart := false, narrowed := true }
def WordQuotesUptoSaid : Prop := wordQuotesUptoRow.holds Try.pinned (OpenSpec.upto wordQuotesSpec)

/-- 'ferrysliplaw01.WordReads', WHERE WHAT IT READS IS OF BULK AT MOST 1048576: true; the input reads as it did. -/
def wordReadsUptoRow : OpenClaim := { program := "ytkhplfdijadhbaa", sum := "3eb6c243f216eab9a17657686c7b1355d4a88ecb3ff617195b3b8869df934cfb", func := "ferryslip/ferrysliplaw01.WordReads", spec := "wordReads", inPlace := ["internal/bytealg.IndexByteString", "internal/abi.NoEscape"], apart := false, narrowed := true }
def WordReadsUptoSaid : Prop := wordReadsUptoRow.holds Try.pinned (OpenSpec.upto wordReadsSpec)

/-- 'ferrysliplaw01.WordApart', WHERE WHAT IT READS IS OF BULK AT MOST 1048576: true; the input reads as it did. -/
def wordApartUptoRow : OpenClaim := { program := "ytkhplfdijadhbaa", sum := "3eb6c243f216eab9a17657686c7b1355d4a88ecb3ff617195b3b8869df934cfb", func := "ferryslip/ferrysliplaw01.WordApart", spec := "wordApart", inPlace := ["internal/bytealg.IndexByteString", "internal/abi.NoEscape"], apart := false, narrowed := true }
def WordApartUptoSaid : Prop := wordApartUptoRow.holds Try.pinned (OpenSpec.upto wordApartSpec)

/-- 'ferrysliplaw01.WordBytes', WHERE WHAT IT READS IS OF BULK AT MOST 1048576: true; the input reads as it did. -/
def wordBytesUptoRow : OpenClaim := { program := "ytkhplfdijadhbaa", sum := "3eb6c243f216eab9a17657686c7b1355d4a88ecb3ff617195b3b8869df934cfb", func := "ferryslip/ferrysliplaw01.WordBytes", spec := "wordBytes", inPlace := ["internal/bytealg.IndexByteString", "internal/abi.NoEscape"], apart := false, narrowed := true }
def WordBytesUptoSaid : Prop := wordBytesUptoRow.holds Try.pinned (OpenSpec.upto wordBytesSpec)

/-- 'ferrysliplaw01.WordLong', WHERE WHAT IT READS IS OF BULK AT MOST 1048576: true; the input reads as it did. -/
def wordLongUptoRow : OpenClaim := { program := "ytkhplfdijadhbaa", sum := "3eb6c243f216eab9a17657686c7b1355d4a88ecb3ff617195b3b8869df934cfb", func := "ferryslip/ferrysliplaw01.WordLong", spec := "wordLong", inPlace := ["internal/bytealg.IndexByteString", "internal/abi.NoEscape"], apart := false, narrowed := true }
def WordLongUptoSaid : Prop := wordLongUptoRow.holds Try.pinned (OpenSpec.upto wordLongSpec)

/-- 'ferrysliplaw01.WordRow', WHERE WHAT IT READS IS OF BULK AT MOST 1048576: true; the input reads as it did. -/
def wordRowUptoRow : OpenClaim := { program := "ytkhplfdijadhbaa", sum := "3eb6c243f216eab9a17657686c7b1355d4a88ecb3ff617195b3b8869df934cfb", func := "ferryslip/ferrysliplaw01.WordRow", spec := "wordRow", inPlace := ["internal/bytealg.IndexByteString", "internal/abi.NoEscape"], apart := false, narrowed := true }
def WordRowUptoSaid : Prop := wordRowUptoRow.holds Try.pinned (OpenSpec.upto wordRowSpec)

end Rows
end Go.Proofs.Ytkhplfdijadhbaa
