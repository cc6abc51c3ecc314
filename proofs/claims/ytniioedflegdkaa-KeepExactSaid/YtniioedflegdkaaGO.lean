/- The statements on revisions hold, second part. -/
import Derived.Test.YtniioedflegdkaaGE
import Derived.Test.YtniioedflegdkaaAb32
import Derived.Test.YtniioedflegdkaaR10
set_option linter.all false
namespace Go.Proofs.Ytniioedflegdkaa
open Go Go.Ab Go.Proofs Go.Fs Go.RowKit
instance fitDecGO (n : Nat) : Decidable (fitC n) := inferInstanceAs (Decidable (n * 24 ≤ 140737488351232))
theorem keepExact_res : Try.f8.resultTypes = #[4] := by kernel_rfl
theorem keepExact_sh : shapesOf Try.prog Try.f8.params.toList = some [.struct [.list 1 .str, .list 2 (.struct [.int .i64, .str])], .str] := by kernel_rfl
theorem keepExact_rd : Try.f8.params.toList.all (fun t => Try.prog.readableRec t && decide (t < Try.prog.types.size)) = true := by kernel_rfl
theorem keepExact_inits : Try.checked.prog.inits.idxOf? 8 = none := by kernel_rfl
set_option maxRecDepth 100000 in
set_option linter.unusedVariables false in
theorem keepExact_data (rows : List (List S)) (he : EncRs [.struct [.list 1 .str, .list 2 (.struct [.int .i64, .str])], .str] rows) (hz : SzRs Try.prog Try.f8.params.toList rows) : kExactG (argsOf [.struct [.list 1 .str, .list 2 (.struct [.int .i64, .str])], .str] rows) = some (.c (.s (.bool true))) := by
    obtain ⟨r0, q, rfl, h0, he⟩ := encRs_cons he
    obtain ⟨r1, q, rfl, h1, he⟩ := encRs_cons he
    obtain rfl := encRs_nil he
    obtain ⟨ss, cs, f, g, rfl⟩ := enc_dk h0
    obtain ⟨t, rfl, -⟩ := enc_str h1
    have z := sz_field (j := 0) (off := 1) (b := 24) hz (by kernel_rfl) rfl rfl
    rw [encs_len] at z
    have hc0 : fitC cs.length := z
    have hc := hc0
    have := kExactG_eq (ss := ss) (cs := cs) (f := f) (g := g) (t := t)
    rw [if_pos hc] at this
    exact this
set_option maxRecDepth 100000 in
theorem keepExact_step {H : Type} {enc : TypeId × Value → H} {W : World} {base : Nat} {args : Array Value} {ds gs : List (DataW H)} {before : List MemPlace} (hval : ∀ (j : Nat) t v, Try.f8.params[j]? = some t → args[j]? = some v → Value.okWide Try.prog W .any base t v)
    (hW : DataW.Whole enc Try.prog Try.f8.params.toList Rows.keepExactSpec.vars false W args.toList ds gs before) (hz : (DataW.weightsEach Try.prog (Try.f8.params.toList ++ Rows.keepExactSpec.plain.varTypes Try.prog) (ds ++ gs)).all (· ≤ reachBytes) = true) :
    Calls Try.prog 8 args W fun e W' => ∃ v, e = .returned v ∧ Rows.keepExactSpec.post enc Try.prog Try.f8 false true false false W args v W' :=
  law_stepS (P := Try.prog) (shs := [.struct [.list 1 .str, .list 2 (.struct [.int .i64, .str])], .str]) contract_law19_KeepExact prog_laid rfl keepExact_sh keepExact_rd keepExact_res prog_bool (fun ds h => by match ds, h with | [_, _], _ => rfl) hval hW hz (fun rows he hs => keepExact_data rows he hs)
set_option maxRecDepth 100000 in
theorem keepExact_wit (os : Os) (H : Type) (enc : TypeId × Value → H) : ∃ (w : World) (tape : Tape) (i : Input), w.os = os ∧ (w.forCall tape i).Shaped Try.checked.prog ∧ i.vars = [] ∧ Input.okWide Try.checked.prog (w.forCall tape i) .any w.heap.size 8 i ∧
    Rows.keepExactSpec.pre6 enc Try.checked.prog Try.f8 Rows.keepExactRow.domain false (w.forCall tape i).memory i.args ∧ ({ modest := false } : Assume).holds Try.checked.prog (lone (Frame.enter Try.checked.prog 8 i.args .normal) [] (w.forCall tape i)) :=
  ChangeSpec.witness6 (enc := enc) (C := Try.checked) false ⟨#[], #[.agg #[.slice none 0 0, .slice none 0 0], .string ⟨#[]⟩], []⟩ 8 (by kernel_rfl) (by kernel_rfl) (by kernel_rfl) (by kernel_rfl)
set_option maxRecDepth 100000 in
theorem keepExact_lifted (os : Os) (started : os.Started) (H : Type) (enc : TypeId × Value → H) :
    ReturnsInHanded {} Try.checked os 8 .any (Rows.keepExactSpec.pre6 enc Try.prog Try.f8 Rows.keepExactRow.domain false) (Rows.keepExactSpec.post enc Try.prog Try.f8 false true false false) :=
  returnsInHanded_of_change_sized (C := Try.checked) prog_own2 started keepExact_inits Try.func8 (keepExact_wit os H enc) (fun _ _ _ _ _ _ hval hW _ hz _ => keepExact_step hval hW hz)
set_option maxRecDepth 100000 in
theorem keepExact_holds : Rows.KeepExactSaid :=
  OpenClaim.holds_of_wide 8 Try.f8 rfl rfl rfl rfl rfl rfl rfl ⟨rfl, rfl, rfl, rfl, rfl⟩ rfl rfl rfl rfl rfl (by kernel_rfl) Try.func8 (by kernel_rfl)
    (of_decide_eq_true (by kernel_rfl)) (by unfold Func.isWrapper; first | (rw [if_pos (by decide +kernel)]; kernel_rfl) | (rw [if_neg (by decide +kernel)]; exact ⟨rfl, rfl⟩))
    (fun os started H enc _ => keepExact_lifted os started H enc)

end Go.Proofs.Ytniioedflegdkaa
