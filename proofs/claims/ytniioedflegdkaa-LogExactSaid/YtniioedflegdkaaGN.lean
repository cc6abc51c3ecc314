/- The statements on the log hold, second part. -/
import Derived.Test.YtniioedflegdkaaGE
import Derived.Test.YtniioedflegdkaaAb32
import Derived.Test.YtniioedflegdkaaR8
set_option linter.all false
namespace Go.Proofs.Ytniioedflegdkaa
open Go Go.Ab Go.Proofs Go.Fs Go.RowKit
instance fitDecGN (n : Nat) : Decidable (fitC n) := inferInstanceAs (Decidable (n * 24 ≤ 140737488351232))
theorem logExact_res : Try.f3.resultTypes = #[4] := by kernel_rfl
theorem logExact_sh : shapesOf Try.prog Try.f3.params.toList = some [.struct [.list 1 .str, .list 2 (.struct [.int .i64, .str])], .str] := by kernel_rfl
theorem logExact_rd : Try.f3.params.toList.all (fun t => Try.prog.readableRec t && decide (t < Try.prog.types.size)) = true := by kernel_rfl
theorem logExact_inits : Try.checked.prog.inits.idxOf? 3 = none := by kernel_rfl
set_option maxRecDepth 100000 in
set_option linter.unusedVariables false in
theorem logExact_data (rows : List (List S)) (he : EncRs [.struct [.list 1 .str, .list 2 (.struct [.int .i64, .str])], .str] rows) (hz : SzRs Try.prog Try.f3.params.toList rows) : lExactG (argsOf [.struct [.list 1 .str, .list 2 (.struct [.int .i64, .str])], .str] rows) = some (.c (.s (.bool true))) := by
    obtain ⟨r0, q, rfl, h0, he⟩ := encRs_cons he
    obtain ⟨r1, q, rfl, h1, he⟩ := encRs_cons he
    obtain rfl := encRs_nil he
    obtain ⟨ss, cs, f, g, rfl⟩ := enc_dk h0
    obtain ⟨t, rfl, -⟩ := enc_str h1
    have z := sz_field (j := 0) (off := 1) (b := 24) hz (by kernel_rfl) rfl rfl
    rw [encs_len] at z
    have hc0 : fitC cs.length := z
    have hc := hc0
    have := lExactG_eq (ss := ss) (cs := cs) (f := f) (g := g) (t := t)
    rw [if_pos hc] at this
    exact this
set_option maxRecDepth 100000 in
theorem logExact_step {H : Type} {enc : TypeId × Value → H} {W : World} {base : Nat} {args : Array Value} {ds gs : List (DataW H)} {before : List MemPlace} (hval : ∀ (j : Nat) t v, Try.f3.params[j]? = some t → args[j]? = some v → Value.okWide Try.prog W .any base t v)
    (hW : DataW.Whole enc Try.prog Try.f3.params.toList Rows.logExactSpec.vars false W args.toList ds gs before) (hz : (DataW.weightsEach Try.prog (Try.f3.params.toList ++ Rows.logExactSpec.plain.varTypes Try.prog) (ds ++ gs)).all (· ≤ reachBytes) = true) :
    Calls Try.prog 3 args W fun e W' => ∃ v, e = .returned v ∧ Rows.logExactSpec.post enc Try.prog Try.f3 false true false false W args v W' :=
  law_stepS (P := Try.prog) (shs := [.struct [.list 1 .str, .list 2 (.struct [.int .i64, .str])], .str]) contract_law18_LogExact prog_laid rfl logExact_sh logExact_rd logExact_res prog_bool (fun ds h => by match ds, h with | [_, _], _ => rfl) hval hW hz (fun rows he hs => logExact_data rows he hs)
set_option maxRecDepth 100000 in
theorem logExact_wit (os : Os) (H : Type) (enc : TypeId × Value → H) : ∃ (w : World) (tape : Tape) (i : Input), w.os = os ∧ (w.forCall tape i).Shaped Try.checked.prog ∧ i.vars = [] ∧ Input.okWide Try.checked.prog (w.forCall tape i) .any w.heap.size 3 i ∧
    Rows.logExactSpec.pre6 enc Try.checked.prog Try.f3 Rows.logExactRow.domain false (w.forCall tape i).memory i.args ∧ ({ modest := false } : Assume).holds Try.checked.prog (lone (Frame.enter Try.checked.prog 3 i.args .normal) [] (w.forCall tape i)) :=
  ChangeSpec.witness6 (enc := enc) (C := Try.checked) false ⟨#[], #[.agg #[.slice none 0 0, .slice none 0 0], .string ⟨#[]⟩], []⟩ 8 (by kernel_rfl) (by kernel_rfl) (by kernel_rfl) (by kernel_rfl)
set_option maxRecDepth 100000 in
theorem logExact_lifted (os : Os) (started : os.Started) (H : Type) (enc : TypeId × Value → H) :
    ReturnsInHanded {} Try.checked os 3 .any (Rows.logExactSpec.pre6 enc Try.prog Try.f3 Rows.logExactRow.domain false) (Rows.logExactSpec.post enc Try.prog Try.f3 false true false false) :=
  returnsInHanded_of_change_sized (C := Try.checked) prog_own2 started logExact_inits Try.func3 (logExact_wit os H enc) (fun _ _ _ _ _ _ hval hW _ hz _ => logExact_step hval hW hz)
set_option maxRecDepth 100000 in
theorem logExact_holds : Rows.LogExactSaid :=
  OpenClaim.holds_of_wide 3 Try.f3 rfl rfl rfl rfl rfl rfl rfl ⟨rfl, rfl, rfl, rfl, rfl⟩ rfl rfl rfl rfl rfl (by kernel_rfl) Try.func3 (by kernel_rfl)
    (of_decide_eq_true (by kernel_rfl)) (by unfold Func.isWrapper; first | (rw [if_pos (by decide +kernel)]; kernel_rfl) | (rw [if_neg (by decide +kernel)]; exact ⟨rfl, rfl⟩))
    (fun os started H enc _ => logExact_lifted os started H enc)

theorem logRenewal_res : Try.f4.resultTypes = #[4] := by kernel_rfl
theorem logRenewal_sh : shapesOf Try.prog Try.f4.params.toList = some [.struct [.list 1 .str, .list 2 (.struct [.int .i64, .str])], .list 2 (.struct [.int .i64, .str])] := by kernel_rfl
theorem logRenewal_rd : Try.f4.params.toList.all (fun t => Try.prog.readableRec t && decide (t < Try.prog.types.size)) = true := by kernel_rfl
theorem logRenewal_inits : Try.checked.prog.inits.idxOf? 4 = none := by kernel_rfl
set_option maxRecDepth 100000 in
set_option linter.unusedVariables false in
theorem logRenewal_data (rows : List (List S)) (he : EncRs [.struct [.list 1 .str, .list 2 (.struct [.int .i64, .str])], .list 2 (.struct [.int .i64, .str])] rows) (hz : SzRs Try.prog Try.f4.params.toList rows) : lRenewalG (argsOf [.struct [.list 1 .str, .list 2 (.struct [.int .i64, .str])], .list 2 (.struct [.int .i64, .str])] rows) = some (.c (.s (.bool true))) := by
    obtain ⟨r0, q, rfl, h0, he⟩ := encRs_cons he
    obtain ⟨r1, q, rfl, h1, he⟩ := encRs_cons he
    obtain rfl := encRs_nil he
    obtain ⟨ss, cs, f, g, rfl⟩ := enc_dk h0
    obtain ⟨rows, h, rfl, -, g3⟩ := enc_list h1
    obtain ⟨l, rfl⟩ := enc_rows recE fun r hr => enc_rec (g3 r hr)
    have z := sz_field (j := 0) (off := 1) (b := 24) hz (by kernel_rfl) rfl rfl
    rw [encs_len] at z
    have hc0 : fitC cs.length := z
    have hc := hc0
    have := lRenewalG_eq (ss := ss) (cs := cs) (f := f) (g := g) (l := l) (h := h)
    rw [if_pos hc] at this
    exact this
set_option maxRecDepth 100000 in
theorem logRenewal_step {H : Type} {enc : TypeId × Value → H} {W : World} {base : Nat} {args : Array Value} {ds gs : List (DataW H)} {before : List MemPlace} (hval : ∀ (j : Nat) t v, Try.f4.params[j]? = some t → args[j]? = some v → Value.okWide Try.prog W .any base t v)
    (hW : DataW.Whole enc Try.prog Try.f4.params.toList Rows.logRenewalSpec.vars false W args.toList ds gs before) (hz : (DataW.weightsEach Try.prog (Try.f4.params.toList ++ Rows.logRenewalSpec.plain.varTypes Try.prog) (ds ++ gs)).all (· ≤ reachBytes) = true) :
    Calls Try.prog 4 args W fun e W' => ∃ v, e = .returned v ∧ Rows.logRenewalSpec.post enc Try.prog Try.f4 false true false false W args v W' :=
  law_stepS (P := Try.prog) (shs := [.struct [.list 1 .str, .list 2 (.struct [.int .i64, .str])], .list 2 (.struct [.int .i64, .str])]) contract_law18_LogRenewal prog_laid rfl logRenewal_sh logRenewal_rd logRenewal_res prog_bool (fun ds h => by match ds, h with | [_, _], _ => rfl) hval hW hz (fun rows he hs => logRenewal_data rows he hs)
set_option maxRecDepth 100000 in
theorem logRenewal_wit (os : Os) (H : Type) (enc : TypeId × Value → H) : ∃ (w : World) (tape : Tape) (i : Input), w.os = os ∧ (w.forCall tape i).Shaped Try.checked.prog ∧ i.vars = [] ∧ Input.okWide Try.checked.prog (w.forCall tape i) .any w.heap.size 4 i ∧
    Rows.logRenewalSpec.pre6 enc Try.checked.prog Try.f4 Rows.logRenewalRow.domain false (w.forCall tape i).memory i.args ∧ ({ modest := false } : Assume).holds Try.checked.prog (lone (Frame.enter Try.checked.prog 4 i.args .normal) [] (w.forCall tape i)) :=
  ChangeSpec.witness6 (enc := enc) (C := Try.checked) false ⟨#[], #[.agg #[.slice none 0 0, .slice none 0 0], .slice none 0 0], []⟩ 8 (by kernel_rfl) (by kernel_rfl) (by kernel_rfl) (by kernel_rfl)
set_option maxRecDepth 100000 in
theorem logRenewal_lifted (os : Os) (started : os.Started) (H : Type) (enc : TypeId × Value → H) :
    ReturnsInHanded {} Try.checked os 4 .any (Rows.logRenewalSpec.pre6 enc Try.prog Try.f4 Rows.logRenewalRow.domain false) (Rows.logRenewalSpec.post enc Try.prog Try.f4 false true false false) :=
  returnsInHanded_of_change_sized (C := Try.checked) prog_own2 started logRenewal_inits Try.func4 (logRenewal_wit os H enc) (fun _ _ _ _ _ _ hval hW _ hz _ => logRenewal_step hval hW hz)
set_option maxRecDepth 100000 in
theorem logRenewal_holds : Rows.LogRenewalSaid :=
  OpenClaim.holds_of_wide 4 Try.f4 rfl rfl rfl rfl rfl rfl rfl ⟨rfl, rfl, rfl, rfl, rfl⟩ rfl rfl rfl rfl rfl (by kernel_rfl) Try.func4 (by kernel_rfl)
    (of_decide_eq_true (by kernel_rfl)) (by unfold Func.isWrapper; first | (rw [if_pos (by decide +kernel)]; kernel_rfl) | (rw [if_neg (by decide +kernel)]; exact ⟨rfl, rfl⟩))
    (fun os started H enc _ => logRenewal_lifted os started H enc)

end Go.Proofs.Ytniioedflegdkaa
