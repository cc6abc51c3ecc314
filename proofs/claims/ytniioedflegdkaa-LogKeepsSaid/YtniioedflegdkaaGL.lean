/- The statements on the log hold. -/
import Derived.Test.YtniioedflegdkaaGE
set_option linter.all false
namespace Go.Proofs.Ytniioedflegdkaa
open Go Go.Ab Go.Proofs Go.Fs Go.RowKit
theorem logGoes_res : Try.f7.resultTypes = #[4] := by kernel_rfl
theorem logGoes_sh : shapesOf Try.prog Try.f7.params.toList = some [.int .u8, .list 1 .str, .list 1 (.int .i64)] := by kernel_rfl
theorem logGoes_rd : Try.f7.params.toList.all (fun t => Try.prog.readableRec t && decide (t < Try.prog.types.size)) = true := by kernel_rfl
theorem logGoes_inits : Try.checked.prog.inits.idxOf? 7 = none := by kernel_rfl
set_option maxRecDepth 100000 in
set_option linter.unusedVariables false in
theorem logGoes_data (rows : List (List S)) (he : EncRs [.int .u8, .list 1 .str, .list 1 (.int .i64)] rows) : lGoesG (argsOf [.int .u8, .list 1 .str, .list 1 (.int .i64)] rows) = some (.c (.s (.bool true))) := by
    obtain ⟨r0, q, rfl, h0, he⟩ := encRs_cons he
    obtain ⟨r1, q, rfl, h1, he⟩ := encRs_cons he
    obtain ⟨r2, q, rfl, h2, he⟩ := encRs_cons he
    obtain rfl := encRs_nil he
    obtain ⟨a, rfl, ha⟩ := enc_int h0
    rw [kmin8, kmax8] at ha
    obtain ⟨rows, f, rfl, -, g1⟩ := enc_list h1
    obtain ⟨tx, rfl⟩ := enc_rows strE fun r hr => enc_st (g1 r hr)
    obtain ⟨rows, h, rfl, -, g3⟩ := enc_list h2
    obtain ⟨keep, rfl⟩ := enc_rows numE fun r hr => enc_num (g3 r hr)
    have hc : 0 ≤ a ∧ a < 256 := ⟨by omega, by omega⟩
    have := lGoesG_eq (a := a) (tx := tx) (f := f) (keep := keep) (h := h)
    rw [if_pos hc] at this
    exact this
set_option maxRecDepth 100000 in
theorem logGoes_step {H : Type} {enc : TypeId × Value → H} {W : World} {base : Nat} {args : Array Value} {ds gs : List (DataW H)} {before : List MemPlace} (hval : ∀ (j : Nat) t v, Try.f7.params[j]? = some t → args[j]? = some v → Value.okWide Try.prog W .any base t v)
    (hW : DataW.Whole enc Try.prog Try.f7.params.toList Rows.logGoesSpec.vars false W args.toList ds gs before) :
    Calls Try.prog 7 args W fun e W' => ∃ v, e = .returned v ∧ Rows.logGoesSpec.post enc Try.prog Try.f7 false true false false W args v W' :=
  law_step (P := Try.prog) (shs := [.int .u8, .list 1 .str, .list 1 (.int .i64)]) contract_law18_LogGoes prog_laid rfl logGoes_sh logGoes_rd logGoes_res prog_bool (fun ds h => by match ds, h with | [_, _, _], _ => rfl) hval hW (fun rows he _ => logGoes_data rows he)
set_option maxRecDepth 100000 in
theorem logGoes_wit (os : Os) (H : Type) (enc : TypeId × Value → H) : ∃ (w : World) (tape : Tape) (i : Input), w.os = os ∧ (w.forCall tape i).Shaped Try.checked.prog ∧ i.vars = [] ∧ Input.okWide Try.checked.prog (w.forCall tape i) .any w.heap.size 7 i ∧
    Rows.logGoesSpec.pre6 enc Try.checked.prog Try.f7 Rows.logGoesRow.domain false (w.forCall tape i).memory i.args ∧ ({ modest := false } : Assume).holds Try.checked.prog (lone (Frame.enter Try.checked.prog 7 i.args .normal) [] (w.forCall tape i)) :=
  ChangeSpec.witness6 (enc := enc) (C := Try.checked) false ⟨#[], #[.int .u8 0, .slice none 0 0, .slice none 0 0], []⟩ 8 (by kernel_rfl) (by kernel_rfl) (by kernel_rfl) (by kernel_rfl)
set_option maxRecDepth 100000 in
theorem logGoes_lifted (os : Os) (started : os.Started) (H : Type) (enc : TypeId × Value → H) :
    ReturnsInHanded {} Try.checked os 7 .any (Rows.logGoesSpec.pre6 enc Try.prog Try.f7 Rows.logGoesRow.domain false) (Rows.logGoesSpec.post enc Try.prog Try.f7 false true false false) :=
  returnsInHanded_of_change (C := Try.checked) prog_own2 started logGoes_inits Try.func7 (logGoes_wit os H enc) (fun _ _ _ _ _ _ hval hW _ _ => logGoes_step hval hW)
set_option maxRecDepth 100000 in
theorem logGoes_holds : Rows.LogGoesSaid :=
  OpenClaim.holds_of_wide 7 Try.f7 rfl rfl rfl rfl rfl rfl rfl ⟨rfl, rfl, rfl, rfl, rfl⟩ rfl rfl rfl rfl rfl (by kernel_rfl) Try.func7 (by kernel_rfl)
    (of_decide_eq_true (by kernel_rfl)) (by unfold Func.isWrapper; first | (rw [if_pos (by decide +kernel)]; kernel_rfl) | (rw [if_neg (by decide +kernel)]; exact ⟨rfl, rfl⟩))
    (fun os started H enc _ => logGoes_lifted os started H enc)

theorem logSteps_res : Try.f5.resultTypes = #[4] := by kernel_rfl
theorem logSteps_sh : shapesOf Try.prog Try.f5.params.toList = some [.int .u8, .list 1 .str, .bool] := by kernel_rfl
theorem logSteps_rd : Try.f5.params.toList.all (fun t => Try.prog.readableRec t && decide (t < Try.prog.types.size)) = true := by kernel_rfl
theorem logSteps_inits : Try.checked.prog.inits.idxOf? 5 = none := by kernel_rfl
set_option maxRecDepth 100000 in
set_option linter.unusedVariables false in
theorem logSteps_data (rows : List (List S)) (he : EncRs [.int .u8, .list 1 .str, .bool] rows) : lStepsG (argsOf [.int .u8, .list 1 .str, .bool] rows) = some (.c (.s (.bool true))) := by
    obtain ⟨r0, q, rfl, h0, he⟩ := encRs_cons he
    obtain ⟨r1, q, rfl, h1, he⟩ := encRs_cons he
    obtain ⟨r2, q, rfl, h2, he⟩ := encRs_cons he
    obtain rfl := encRs_nil he
    obtain ⟨a, rfl, ha⟩ := enc_int h0
    rw [kmin8, kmax8] at ha
    obtain ⟨rows, f, rfl, -, g1⟩ := enc_list h1
    obtain ⟨tx, rfl⟩ := enc_rows strE fun r hr => enc_st (g1 r hr)
    obtain ⟨b, rfl⟩ := enc_bool h2
    have hc : 0 ≤ a ∧ a < 256 := ⟨by omega, by omega⟩
    have := lStepsG_eq (a := a) (tx := tx) (f := f) (rn := b)
    rw [if_pos hc] at this
    exact this
set_option maxRecDepth 100000 in
theorem logSteps_step {H : Type} {enc : TypeId × Value → H} {W : World} {base : Nat} {args : Array Value} {ds gs : List (DataW H)} {before : List MemPlace} (hval : ∀ (j : Nat) t v, Try.f5.params[j]? = some t → args[j]? = some v → Value.okWide Try.prog W .any base t v)
    (hW : DataW.Whole enc Try.prog Try.f5.params.toList Rows.logStepsSpec.vars false W args.toList ds gs before) :
    Calls Try.prog 5 args W fun e W' => ∃ v, e = .returned v ∧ Rows.logStepsSpec.post enc Try.prog Try.f5 false true false false W args v W' :=
  law_step (P := Try.prog) (shs := [.int .u8, .list 1 .str, .bool]) contract_law18_LogSteps prog_laid rfl logSteps_sh logSteps_rd logSteps_res prog_bool (fun ds h => by match ds, h with | [_, _, _], _ => rfl) hval hW (fun rows he _ => logSteps_data rows he)
set_option maxRecDepth 100000 in
theorem logSteps_wit (os : Os) (H : Type) (enc : TypeId × Value → H) : ∃ (w : World) (tape : Tape) (i : Input), w.os = os ∧ (w.forCall tape i).Shaped Try.checked.prog ∧ i.vars = [] ∧ Input.okWide Try.checked.prog (w.forCall tape i) .any w.heap.size 5 i ∧
    Rows.logStepsSpec.pre6 enc Try.checked.prog Try.f5 Rows.logStepsRow.domain false (w.forCall tape i).memory i.args ∧ ({ modest := false } : Assume).holds Try.checked.prog (lone (Frame.enter Try.checked.prog 5 i.args .normal) [] (w.forCall tape i)) :=
  ChangeSpec.witness6 (enc := enc) (C := Try.checked) false ⟨#[], #[.int .u8 0, .slice none 0 0, .bool false], []⟩ 8 (by kernel_rfl) (by kernel_rfl) (by kernel_rfl) (by kernel_rfl)
set_option maxRecDepth 100000 in
theorem logSteps_lifted (os : Os) (started : os.Started) (H : Type) (enc : TypeId × Value → H) :
    ReturnsInHanded {} Try.checked os 5 .any (Rows.logStepsSpec.pre6 enc Try.prog Try.f5 Rows.logStepsRow.domain false) (Rows.logStepsSpec.post enc Try.prog Try.f5 false true false false) :=
  returnsInHanded_of_change (C := Try.checked) prog_own2 started logSteps_inits Try.func5 (logSteps_wit os H enc) (fun _ _ _ _ _ _ hval hW _ _ => logSteps_step hval hW)
set_option maxRecDepth 100000 in
theorem logSteps_holds : Rows.LogStepsSaid :=
  OpenClaim.holds_of_wide 5 Try.f5 rfl rfl rfl rfl rfl rfl rfl ⟨rfl, rfl, rfl, rfl, rfl⟩ rfl rfl rfl rfl rfl (by kernel_rfl) Try.func5 (by kernel_rfl)
    (of_decide_eq_true (by kernel_rfl)) (by unfold Func.isWrapper; first | (rw [if_pos (by decide +kernel)]; kernel_rfl) | (rw [if_neg (by decide +kernel)]; exact ⟨rfl, rfl⟩))
    (fun os started H enc _ => logSteps_lifted os started H enc)

theorem logKeeps_res : Try.f6.resultTypes = #[4] := by kernel_rfl
theorem logKeeps_sh : shapesOf Try.prog Try.f6.params.toList = some [.int .u8, .list 6 (.struct [.bool, .bool, .int .i64, .int .i64, .str, .list 1 (.int .i64)])] := by kernel_rfl
theorem logKeeps_rd : Try.f6.params.toList.all (fun t => Try.prog.readableRec t && decide (t < Try.prog.types.size)) = true := by kernel_rfl
theorem logKeeps_inits : Try.checked.prog.inits.idxOf? 6 = none := by kernel_rfl
set_option maxRecDepth 100000 in
set_option linter.unusedVariables false in
theorem logKeeps_data (rows : List (List S)) (he : EncRs [.int .u8, .list 6 (.struct [.bool, .bool, .int .i64, .int .i64, .str, .list 1 (.int .i64)])] rows) : lKeepsG (argsOf [.int .u8, .list 6 (.struct [.bool, .bool, .int .i64, .int .i64, .str, .list 1 (.int .i64)])] rows) = some (.c (.s (.bool true))) := by
    obtain ⟨r0, q, rfl, h0, he⟩ := encRs_cons he
    obtain ⟨r1, q, rfl, h1, he⟩ := encRs_cons he
    obtain rfl := encRs_nil he
    obtain ⟨a, rfl, ha⟩ := enc_int h0
    rw [kmin8, kmax8] at ha
    obtain ⟨rows, f, rfl, -, g1⟩ := enc_list h1
    obtain ⟨sl, rfl⟩ := enc_rows stpE fun r hr => enc_stp (g1 r hr)
    have hc : 0 ≤ a ∧ a < 256 := ⟨by omega, by omega⟩
    have := lKeepsG_eq (a := a) (sl := sl) (f := f)
    rw [if_pos hc] at this
    exact this
set_option maxRecDepth 100000 in
theorem logKeeps_step {H : Type} {enc : TypeId × Value → H} {W : World} {base : Nat} {args : Array Value} {ds gs : List (DataW H)} {before : List MemPlace} (hval : ∀ (j : Nat) t v, Try.f6.params[j]? = some t → args[j]? = some v → Value.okWide Try.prog W .any base t v)
    (hW : DataW.Whole enc Try.prog Try.f6.params.toList Rows.logKeepsSpec.vars false W args.toList ds gs before) :
    Calls Try.prog 6 args W fun e W' => ∃ v, e = .returned v ∧ Rows.logKeepsSpec.post enc Try.prog Try.f6 false true false false W args v W' :=
  law_step (P := Try.prog) (shs := [.int .u8, .list 6 (.struct [.bool, .bool, .int .i64, .int .i64, .str, .list 1 (.int .i64)])]) contract_law18_LogKeeps prog_laid rfl logKeeps_sh logKeeps_rd logKeeps_res prog_bool (fun ds h => by match ds, h with | [_, _], _ => rfl) hval hW (fun rows he _ => logKeeps_data rows he)
set_option maxRecDepth 100000 in
theorem logKeeps_wit (os : Os) (H : Type) (enc : TypeId × Value → H) : ∃ (w : World) (tape : Tape) (i : Input), w.os = os ∧ (w.forCall tape i).Shaped Try.checked.prog ∧ i.vars = [] ∧ Input.okWide Try.checked.prog (w.forCall tape i) .any w.heap.size 6 i ∧
    Rows.logKeepsSpec.pre6 enc Try.checked.prog Try.f6 Rows.logKeepsRow.domain false (w.forCall tape i).memory i.args ∧ ({ modest := false } : Assume).holds Try.checked.prog (lone (Frame.enter Try.checked.prog 6 i.args .normal) [] (w.forCall tape i)) :=
  ChangeSpec.witness6 (enc := enc) (C := Try.checked) false ⟨#[], #[.int .u8 0, .slice none 0 0], []⟩ 8 (by kernel_rfl) (by kernel_rfl) (by kernel_rfl) (by kernel_rfl)
set_option maxRecDepth 100000 in
theorem logKeeps_lifted (os : Os) (started : os.Started) (H : Type) (enc : TypeId × Value → H) :
    ReturnsInHanded {} Try.checked os 6 .any (Rows.logKeepsSpec.pre6 enc Try.prog Try.f6 Rows.logKeepsRow.domain false) (Rows.logKeepsSpec.post enc Try.prog Try.f6 false true false false) :=
  returnsInHanded_of_change (C := Try.checked) prog_own2 started logKeeps_inits Try.func6 (logKeeps_wit os H enc) (fun _ _ _ _ _ _ hval hW _ _ => logKeeps_step hval hW)
set_option maxRecDepth 100000 in
theorem logKeeps_holds : Rows.LogKeepsSaid :=
  OpenClaim.holds_of_wide 6 Try.f6 rfl rfl rfl rfl rfl rfl rfl ⟨rfl, rfl, rfl, rfl, rfl⟩ rfl rfl rfl rfl rfl (by kernel_rfl) Try.func6 (by kernel_rfl)
    (of_decide_eq_true (by kernel_rfl)) (by unfold Func.isWrapper; first | (rw [if_pos (by decide +kernel)]; kernel_rfl) | (rw [if_neg (by decide +kernel)]; exact ⟨rfl, rfl⟩))
    (fun os started H enc _ => logKeeps_lifted os started H enc)

end Go.Proofs.Ytniioedflegdkaa
