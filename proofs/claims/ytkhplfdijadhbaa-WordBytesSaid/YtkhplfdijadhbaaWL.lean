/- The statements on words hold. -/
import Derived.Test.YtkhplfdijadhbaaFr
import Derived.Test.YtkhplfdijadhbaaC4
set_option linter.all false
namespace Go.Proofs.Ytkhplfdijadhbaa
open Go Go.Ab Go.Proofs Go.Fs Go.RowKit
theorem wordQuotes_res : Try.f3.resultTypes = #[4] := by kernel_rfl
theorem wordQuotes_sh : shapesOf Try.prog Try.f3.params.toList = some [.str] := by kernel_rfl
theorem wordQuotes_rd : Try.f3.params.toList.all (fun t => Try.prog.readableRec t && decide (t < Try.prog.types.size)) = true := by kernel_rfl
theorem wordQuotes_inits : Try.checked.prog.inits.idxOf? 3 = none := by kernel_rfl
set_option maxRecDepth 100000 in
set_option linter.unusedVariables false in
theorem wordQuotes_data (rows : List (List S)) (he : EncRs [.str] rows) : wQuotesG (argsOf [.str] rows) = some (.c (.s (.bool true))) := by
    obtain ⟨r0, q, rfl, h0, he⟩ := encRs_cons he
    obtain rfl := encRs_nil he
    obtain ⟨s0, rfl, g0⟩ := enc_str h0
    simp only [argsOf_cons, argsOf_nil, arg_str, arg_int, arg_list, arg_bool, arg_struct]
    rfl
set_option maxRecDepth 100000 in
theorem wordQuotes_step {H : Type} {enc : TypeId × Value → H} {W : World} {base : Nat} {args : Array Value} {ds gs : List (DataW H)} {before : List MemPlace} (hval : ∀ (j : Nat) t v, Try.f3.params[j]? = some t → args[j]? = some v → Value.okWide Try.prog W .any base t v)
    (hW : DataW.Whole enc Try.prog Try.f3.params.toList Rows.wordQuotesSpec.vars false W args.toList ds gs before) :
    Calls Try.prog 3 args W fun e W' => ∃ v, e = .returned v ∧ Rows.wordQuotesSpec.post enc Try.prog Try.f3 false true false false W args v W' :=
  law_step (P := Try.prog) (shs := [.str]) contract_law01_WordQuotes prog_laid rfl wordQuotes_sh wordQuotes_rd wordQuotes_res prog_bool (fun ds h => by match ds, h with | [_], _ => rfl) hval hW (fun rows he _ => wordQuotes_data rows he)
set_option maxRecDepth 100000 in
theorem wordQuotes_wit (os : Os) (H : Type) (enc : TypeId × Value → H) : ∃ (w : World) (tape : Tape) (i : Input), w.os = os ∧ (w.forCall tape i).Shaped Try.checked.prog ∧ i.vars = [] ∧ Input.okWide Try.checked.prog (w.forCall tape i) .any w.heap.size 3 i ∧
    Rows.wordQuotesSpec.pre6 enc Try.checked.prog Try.f3 Rows.wordQuotesRow.domain false (w.forCall tape i).memory i.args ∧ ({ modest := false } : Assume).holds Try.checked.prog (lone (Frame.enter Try.checked.prog 3 i.args .normal) [] (w.forCall tape i)) :=
  ChangeSpec.witness6 (enc := enc) (C := Try.checked) false ⟨#[], #[.string ⟨#[]⟩], []⟩ 8 (by kernel_rfl) (by kernel_rfl) (by kernel_rfl) (by kernel_rfl)
set_option maxRecDepth 100000 in
theorem wordQuotes_lifted (os : Os) (started : os.Started) (H : Type) (enc : TypeId × Value → H) :
    ReturnsInHanded {} Try.checked os 3 .any (Rows.wordQuotesSpec.pre6 enc Try.prog Try.f3 Rows.wordQuotesRow.domain false) (Rows.wordQuotesSpec.post enc Try.prog Try.f3 false true false false) :=
  returnsInHanded_of_change (C := Try.checked) prog_own2 started wordQuotes_inits Try.func3 (wordQuotes_wit os H enc) (fun _ _ _ _ _ _ hval hW _ _ => wordQuotes_step hval hW)
set_option maxRecDepth 100000 in
theorem wordQuotes_holds : Rows.WordQuotesSaid :=
  OpenClaim.holds_of_wide 3 Try.f3 rfl rfl rfl rfl rfl rfl rfl ⟨rfl, rfl, rfl, rfl, rfl⟩ rfl rfl rfl rfl rfl (by kernel_rfl) Try.func3 (by kernel_rfl)
    (of_decide_eq_true (by kernel_rfl)) (by unfold Func.isWrapper; first | (rw [if_pos (by decide +kernel)]; kernel_rfl) | (rw [if_neg (by decide +kernel)]; exact ⟨rfl, rfl⟩))
    (fun os started H enc _ => wordQuotes_lifted os started H enc)

theorem wordReads_res : Try.f4.resultTypes = #[4] := by kernel_rfl
theorem wordReads_sh : shapesOf Try.prog Try.f4.params.toList = some [.str, .int .i64] := by kernel_rfl
theorem wordReads_rd : Try.f4.params.toList.all (fun t => Try.prog.readableRec t && decide (t < Try.prog.types.size)) = true := by kernel_rfl
theorem wordReads_inits : Try.checked.prog.inits.idxOf? 4 = none := by kernel_rfl
set_option maxRecDepth 100000 in
set_option linter.unusedVariables false in
theorem wordReads_data (rows : List (List S)) (he : EncRs [.str, .int .i64] rows) : wReadsG (argsOf [.str, .int .i64] rows) = some (.c (.s (.bool true))) := by
    obtain ⟨r0, q, rfl, h0, he⟩ := encRs_cons he
    obtain ⟨r1, q, rfl, h1, he⟩ := encRs_cons he
    obtain rfl := encRs_nil he
    obtain ⟨s0, rfl, g0⟩ := enc_str h0
    obtain ⟨s1, rfl, g1⟩ := enc_int h1
    simp only [argsOf_cons, argsOf_nil, arg_str, arg_int, arg_list, arg_bool, arg_struct]
    rfl
set_option maxRecDepth 100000 in
theorem wordReads_step {H : Type} {enc : TypeId × Value → H} {W : World} {base : Nat} {args : Array Value} {ds gs : List (DataW H)} {before : List MemPlace} (hval : ∀ (j : Nat) t v, Try.f4.params[j]? = some t → args[j]? = some v → Value.okWide Try.prog W .any base t v)
    (hW : DataW.Whole enc Try.prog Try.f4.params.toList Rows.wordReadsSpec.vars false W args.toList ds gs before) :
    Calls Try.prog 4 args W fun e W' => ∃ v, e = .returned v ∧ Rows.wordReadsSpec.post enc Try.prog Try.f4 false true false false W args v W' :=
  law_step (P := Try.prog) (shs := [.str, .int .i64]) contract_law01_WordReads prog_laid rfl wordReads_sh wordReads_rd wordReads_res prog_bool (fun ds h => by match ds, h with | [_, _], _ => rfl) hval hW (fun rows he _ => wordReads_data rows he)
set_option maxRecDepth 100000 in
theorem wordReads_wit (os : Os) (H : Type) (enc : TypeId × Value → H) : ∃ (w : World) (tape : Tape) (i : Input), w.os = os ∧ (w.forCall tape i).Shaped Try.checked.prog ∧ i.vars = [] ∧ Input.okWide Try.checked.prog (w.forCall tape i) .any w.heap.size 4 i ∧
    Rows.wordReadsSpec.pre6 enc Try.checked.prog Try.f4 Rows.wordReadsRow.domain false (w.forCall tape i).memory i.args ∧ ({ modest := false } : Assume).holds Try.checked.prog (lone (Frame.enter Try.checked.prog 4 i.args .normal) [] (w.forCall tape i)) :=
  ChangeSpec.witness6 (enc := enc) (C := Try.checked) false ⟨#[], #[.string ⟨#[]⟩, .int .i64 0], []⟩ 8 (by kernel_rfl) (by kernel_rfl) (by kernel_rfl) (by kernel_rfl)
set_option maxRecDepth 100000 in
theorem wordReads_lifted (os : Os) (started : os.Started) (H : Type) (enc : TypeId × Value → H) :
    ReturnsInHanded {} Try.checked os 4 .any (Rows.wordReadsSpec.pre6 enc Try.prog Try.f4 Rows.wordReadsRow.domain false) (Rows.wordReadsSpec.post enc Try.prog Try.f4 false true false false) :=
  returnsInHanded_of_change (C := Try.checked) prog_own2 started wordReads_inits Try.func4 (wordReads_wit os H enc) (fun _ _ _ _ _ _ hval hW _ _ => wordReads_step hval hW)
set_option maxRecDepth 100000 in
theorem wordReads_holds : Rows.WordReadsSaid :=
  OpenClaim.holds_of_wide 4 Try.f4 rfl rfl rfl rfl rfl rfl rfl ⟨rfl, rfl, rfl, rfl, rfl⟩ rfl rfl rfl rfl rfl (by kernel_rfl) Try.func4 (by kernel_rfl)
    (of_decide_eq_true (by kernel_rfl)) (by unfold Func.isWrapper; first | (rw [if_pos (by decide +kernel)]; kernel_rfl) | (rw [if_neg (by decide +kernel)]; exact ⟨rfl, rfl⟩))
    (fun os started H enc _ => wordReads_lifted os started H enc)

theorem wordApart_res : Try.f5.resultTypes = #[4] := by kernel_rfl
theorem wordApart_sh : shapesOf Try.prog Try.f5.params.toList = some [.str, .str, .str] := by kernel_rfl
theorem wordApart_rd : Try.f5.params.toList.all (fun t => Try.prog.readableRec t && decide (t < Try.prog.types.size)) = true := by kernel_rfl
theorem wordApart_inits : Try.checked.prog.inits.idxOf? 5 = none := by kernel_rfl
set_option maxRecDepth 100000 in
set_option linter.unusedVariables false in
theorem wordApart_data (rows : List (List S)) (he : EncRs [.str, .str, .str] rows) : wApartG (argsOf [.str, .str, .str] rows) = some (.c (.s (.bool true))) := by
    obtain ⟨r0, q, rfl, h0, he⟩ := encRs_cons he
    obtain ⟨r1, q, rfl, h1, he⟩ := encRs_cons he
    obtain ⟨r2, q, rfl, h2, he⟩ := encRs_cons he
    obtain rfl := encRs_nil he
    obtain ⟨s0, rfl, g0⟩ := enc_str h0
    obtain ⟨s1, rfl, g1⟩ := enc_str h1
    obtain ⟨s2, rfl, g2⟩ := enc_str h2
    simp only [argsOf_cons, argsOf_nil, arg_str, arg_int, arg_list, arg_bool, arg_struct]
    rfl
set_option maxRecDepth 100000 in
theorem wordApart_step {H : Type} {enc : TypeId × Value → H} {W : World} {base : Nat} {args : Array Value} {ds gs : List (DataW H)} {before : List MemPlace} (hval : ∀ (j : Nat) t v, Try.f5.params[j]? = some t → args[j]? = some v → Value.okWide Try.prog W .any base t v)
    (hW : DataW.Whole enc Try.prog Try.f5.params.toList Rows.wordApartSpec.vars false W args.toList ds gs before) :
    Calls Try.prog 5 args W fun e W' => ∃ v, e = .returned v ∧ Rows.wordApartSpec.post enc Try.prog Try.f5 false true false false W args v W' :=
  law_step (P := Try.prog) (shs := [.str, .str, .str]) contract_law01_WordApart prog_laid rfl wordApart_sh wordApart_rd wordApart_res prog_bool (fun ds h => by match ds, h with | [_, _, _], _ => rfl) hval hW (fun rows he _ => wordApart_data rows he)
set_option maxRecDepth 100000 in
theorem wordApart_wit (os : Os) (H : Type) (enc : TypeId × Value → H) : ∃ (w : World) (tape : Tape) (i : Input), w.os = os ∧ (w.forCall tape i).Shaped Try.checked.prog ∧ i.vars = [] ∧ Input.okWide Try.checked.prog (w.forCall tape i) .any w.heap.size 5 i ∧
    Rows.wordApartSpec.pre6 enc Try.checked.prog Try.f5 Rows.wordApartRow.domain false (w.forCall tape i).memory i.args ∧ ({ modest := false } : Assume).holds Try.checked.prog (lone (Frame.enter Try.checked.prog 5 i.args .normal) [] (w.forCall tape i)) :=
  ChangeSpec.witness6 (enc := enc) (C := Try.checked) false ⟨#[], #[.string ⟨#[]⟩, .string ⟨#[]⟩, .string ⟨#[]⟩], []⟩ 8 (by kernel_rfl) (by kernel_rfl) (by kernel_rfl) (by kernel_rfl)
set_option maxRecDepth 100000 in
theorem wordApart_lifted (os : Os) (started : os.Started) (H : Type) (enc : TypeId × Value → H) :
    ReturnsInHanded {} Try.checked os 5 .any (Rows.wordApartSpec.pre6 enc Try.prog Try.f5 Rows.wordApartRow.domain false) (Rows.wordApartSpec.post enc Try.prog Try.f5 false true false false) :=
  returnsInHanded_of_change (C := Try.checked) prog_own2 started wordApart_inits Try.func5 (wordApart_wit os H enc) (fun _ _ _ _ _ _ hval hW _ _ => wordApart_step hval hW)
set_option maxRecDepth 100000 in
theorem wordApart_holds : Rows.WordApartSaid :=
  OpenClaim.holds_of_wide 5 Try.f5 rfl rfl rfl rfl rfl rfl rfl ⟨rfl, rfl, rfl, rfl, rfl⟩ rfl rfl rfl rfl rfl (by kernel_rfl) Try.func5 (by kernel_rfl)
    (of_decide_eq_true (by kernel_rfl)) (by unfold Func.isWrapper; first | (rw [if_pos (by decide +kernel)]; kernel_rfl) | (rw [if_neg (by decide +kernel)]; exact ⟨rfl, rfl⟩))
    (fun os started H enc _ => wordApart_lifted os started H enc)

theorem wordBytes_res : Try.f6.resultTypes = #[4] := by kernel_rfl
theorem wordBytes_sh : shapesOf Try.prog Try.f6.params.toList = some [.str] := by kernel_rfl
theorem wordBytes_rd : Try.f6.params.toList.all (fun t => Try.prog.readableRec t && decide (t < Try.prog.types.size)) = true := by kernel_rfl
theorem wordBytes_inits : Try.checked.prog.inits.idxOf? 6 = none := by kernel_rfl
set_option maxRecDepth 100000 in
set_option linter.unusedVariables false in
theorem wordBytes_data (rows : List (List S)) (he : EncRs [.str] rows) : wBytesG (argsOf [.str] rows) = some (.c (.s (.bool true))) := by
    obtain ⟨r0, q, rfl, h0, he⟩ := encRs_cons he
    obtain rfl := encRs_nil he
    obtain ⟨s0, rfl, g0⟩ := enc_str h0
    simp only [argsOf_cons, argsOf_nil, arg_str, arg_int, arg_list, arg_bool, arg_struct]
    rfl
set_option maxRecDepth 100000 in
theorem wordBytes_step {H : Type} {enc : TypeId × Value → H} {W : World} {base : Nat} {args : Array Value} {ds gs : List (DataW H)} {before : List MemPlace} (hval : ∀ (j : Nat) t v, Try.f6.params[j]? = some t → args[j]? = some v → Value.okWide Try.prog W .any base t v)
    (hW : DataW.Whole enc Try.prog Try.f6.params.toList Rows.wordBytesSpec.vars false W args.toList ds gs before) :
    Calls Try.prog 6 args W fun e W' => ∃ v, e = .returned v ∧ Rows.wordBytesSpec.post enc Try.prog Try.f6 false true false false W args v W' :=
  law_step (P := Try.prog) (shs := [.str]) contract_law01_WordBytes prog_laid rfl wordBytes_sh wordBytes_rd wordBytes_res prog_bool (fun ds h => by match ds, h with | [_], _ => rfl) hval hW (fun rows he _ => wordBytes_data rows he)
set_option maxRecDepth 100000 in
theorem wordBytes_wit (os : Os) (H : Type) (enc : TypeId × Value → H) : ∃ (w : World) (tape : Tape) (i : Input), w.os = os ∧ (w.forCall tape i).Shaped Try.checked.prog ∧ i.vars = [] ∧ Input.okWide Try.checked.prog (w.forCall tape i) .any w.heap.size 6 i ∧
    Rows.wordBytesSpec.pre6 enc Try.checked.prog Try.f6 Rows.wordBytesRow.domain false (w.forCall tape i).memory i.args ∧ ({ modest := false } : Assume).holds Try.checked.prog (lone (Frame.enter Try.checked.prog 6 i.args .normal) [] (w.forCall tape i)) :=
  ChangeSpec.witness6 (enc := enc) (C := Try.checked) false ⟨#[], #[.string ⟨#[]⟩], []⟩ 8 (by kernel_rfl) (by kernel_rfl) (by kernel_rfl) (by kernel_rfl)
set_option maxRecDepth 100000 in
theorem wordBytes_lifted (os : Os) (started : os.Started) (H : Type) (enc : TypeId × Value → H) :
    ReturnsInHanded {} Try.checked os 6 .any (Rows.wordBytesSpec.pre6 enc Try.prog Try.f6 Rows.wordBytesRow.domain false) (Rows.wordBytesSpec.post enc Try.prog Try.f6 false true false false) :=
  returnsInHanded_of_change (C := Try.checked) prog_own2 started wordBytes_inits Try.func6 (wordBytes_wit os H enc) (fun _ _ _ _ _ _ hval hW _ _ => wordBytes_step hval hW)
set_option maxRecDepth 100000 in
theorem wordBytes_holds : Rows.WordBytesSaid :=
  OpenClaim.holds_of_wide 6 Try.f6 rfl rfl rfl rfl rfl rfl rfl ⟨rfl, rfl, rfl, rfl, rfl⟩ rfl rfl rfl rfl rfl (by kernel_rfl) Try.func6 (by kernel_rfl)
    (of_decide_eq_true (by kernel_rfl)) (by unfold Func.isWrapper; first | (rw [if_pos (by decide +kernel)]; kernel_rfl) | (rw [if_neg (by decide +kernel)]; exact ⟨rfl, rfl⟩))
    (fun os started H enc _ => wordBytes_lifted os started H enc)

theorem wordLong_res : Try.f7.resultTypes = #[4] := by kernel_rfl
theorem wordLong_sh : shapesOf Try.prog Try.f7.params.toList = some [.str] := by kernel_rfl
theorem wordLong_rd : Try.f7.params.toList.all (fun t => Try.prog.readableRec t && decide (t < Try.prog.types.size)) = true := by kernel_rfl
theorem wordLong_inits : Try.checked.prog.inits.idxOf? 7 = none := by kernel_rfl
set_option maxRecDepth 100000 in
set_option linter.unusedVariables false in
theorem wordLong_data (rows : List (List S)) (he : EncRs [.str] rows) : wLongG (argsOf [.str] rows) = some (.c (.s (.bool true))) := by
    obtain ⟨r0, q, rfl, h0, he⟩ := encRs_cons he
    obtain rfl := encRs_nil he
    obtain ⟨s0, rfl, g0⟩ := enc_str h0
    simp only [argsOf_cons, argsOf_nil, arg_str, arg_int, arg_list, arg_bool, arg_struct]
    rfl
set_option maxRecDepth 100000 in
theorem wordLong_step {H : Type} {enc : TypeId × Value → H} {W : World} {base : Nat} {args : Array Value} {ds gs : List (DataW H)} {before : List MemPlace} (hval : ∀ (j : Nat) t v, Try.f7.params[j]? = some t → args[j]? = some v → Value.okWide Try.prog W .any base t v)
    (hW : DataW.Whole enc Try.prog Try.f7.params.toList Rows.wordLongSpec.vars false W args.toList ds gs before) :
    Calls Try.prog 7 args W fun e W' => ∃ v, e = .returned v ∧ Rows.wordLongSpec.post enc Try.prog Try.f7 false true false false W args v W' :=
  law_step (P := Try.prog) (shs := [.str]) contract_law01_WordLong prog_laid rfl wordLong_sh wordLong_rd wordLong_res prog_bool (fun ds h => by match ds, h with | [_], _ => rfl) hval hW (fun rows he _ => wordLong_data rows he)
set_option maxRecDepth 100000 in
theorem wordLong_wit (os : Os) (H : Type) (enc : TypeId × Value → H) : ∃ (w : World) (tape : Tape) (i : Input), w.os = os ∧ (w.forCall tape i).Shaped Try.checked.prog ∧ i.vars = [] ∧ Input.okWide Try.checked.prog (w.forCall tape i) .any w.heap.size 7 i ∧
    Rows.wordLongSpec.pre6 enc Try.checked.prog Try.f7 Rows.wordLongRow.domain false (w.forCall tape i).memory i.args ∧ ({ modest := false } : Assume).holds Try.checked.prog (lone (Frame.enter Try.checked.prog 7 i.args .normal) [] (w.forCall tape i)) :=
  ChangeSpec.witness6 (enc := enc) (C := Try.checked) false ⟨#[], #[.string ⟨#[]⟩], []⟩ 8 (by kernel_rfl) (by kernel_rfl) (by kernel_rfl) (by kernel_rfl)
set_option maxRecDepth 100000 in
theorem wordLong_lifted (os : Os) (started : os.Started) (H : Type) (enc : TypeId × Value → H) :
    ReturnsInHanded {} Try.checked os 7 .any (Rows.wordLongSpec.pre6 enc Try.prog Try.f7 Rows.wordLongRow.domain false) (Rows.wordLongSpec.post enc Try.prog Try.f7 false true false false) :=
  returnsInHanded_of_change (C := Try.checked) prog_own2 started wordLong_inits Try.func7 (wordLong_wit os H enc) (fun _ _ _ _ _ _ hval hW _ _ => wordLong_step hval hW)
set_option maxRecDepth 100000 in
theorem wordLong_holds : Rows.WordLongSaid :=
  OpenClaim.holds_of_wide 7 Try.f7 rfl rfl rfl rfl rfl rfl rfl ⟨rfl, rfl, rfl, rfl, rfl⟩ rfl rfl rfl rfl rfl (by kernel_rfl) Try.func7 (by kernel_rfl)
    (of_decide_eq_true (by kernel_rfl)) (by unfold Func.isWrapper; first | (rw [if_pos (by decide +kernel)]; kernel_rfl) | (rw [if_neg (by decide +kernel)]; exact ⟨rfl, rfl⟩))
    (fun os started H enc _ => wordLong_lifted os started H enc)

theorem wordRow_res : Try.f8.resultTypes = #[4] := by kernel_rfl
theorem wordRow_sh : shapesOf Try.prog Try.f8.params.toList = some [.list 1 .str] := by kernel_rfl
theorem wordRow_rd : Try.f8.params.toList.all (fun t => Try.prog.readableRec t && decide (t < Try.prog.types.size)) = true := by kernel_rfl
theorem wordRow_inits : Try.checked.prog.inits.idxOf? 8 = none := by kernel_rfl
set_option maxRecDepth 100000 in
set_option linter.unusedVariables false in
theorem wordRow_data (rows : List (List S)) (he : EncRs [.list 1 .str] rows) : wRowG (argsOf [.list 1 .str] rows) = some (.c (.s (.bool true))) := by
    obtain ⟨r0, q, rfl, h0, he⟩ := encRs_cons he
    obtain rfl := encRs_nil he
    obtain ⟨rows, f, rfl, _, g0⟩ := enc_list h0
    simp only [argsOf_cons, argsOf_nil, arg_str, arg_int, arg_list, arg_bool, arg_struct]
    obtain ⟨l, hle, hl⟩ := enc_strs (rows := rows) g0
    subst hle
    exact wRowG_eq (l := l) (f := f)
set_option maxRecDepth 100000 in
theorem wordRow_step {H : Type} {enc : TypeId × Value → H} {W : World} {base : Nat} {args : Array Value} {ds gs : List (DataW H)} {before : List MemPlace} (hval : ∀ (j : Nat) t v, Try.f8.params[j]? = some t → args[j]? = some v → Value.okWide Try.prog W .any base t v)
    (hW : DataW.Whole enc Try.prog Try.f8.params.toList Rows.wordRowSpec.vars false W args.toList ds gs before) :
    Calls Try.prog 8 args W fun e W' => ∃ v, e = .returned v ∧ Rows.wordRowSpec.post enc Try.prog Try.f8 false true false false W args v W' :=
  law_step (P := Try.prog) (shs := [.list 1 .str]) contract_law01_WordRow prog_laid rfl wordRow_sh wordRow_rd wordRow_res prog_bool (fun ds h => by match ds, h with | [_], _ => rfl) hval hW (fun rows he _ => wordRow_data rows he)
set_option maxRecDepth 100000 in
theorem wordRow_wit (os : Os) (H : Type) (enc : TypeId × Value → H) : ∃ (w : World) (tape : Tape) (i : Input), w.os = os ∧ (w.forCall tape i).Shaped Try.checked.prog ∧ i.vars = [] ∧ Input.okWide Try.checked.prog (w.forCall tape i) .any w.heap.size 8 i ∧
    Rows.wordRowSpec.pre6 enc Try.checked.prog Try.f8 Rows.wordRowRow.domain false (w.forCall tape i).memory i.args ∧ ({ modest := false } : Assume).holds Try.checked.prog (lone (Frame.enter Try.checked.prog 8 i.args .normal) [] (w.forCall tape i)) :=
  ChangeSpec.witness6 (enc := enc) (C := Try.checked) false ⟨#[], #[.slice none 0 0], []⟩ 8 (by kernel_rfl) (by kernel_rfl) (by kernel_rfl) (by kernel_rfl)
set_option maxRecDepth 100000 in
theorem wordRow_lifted (os : Os) (started : os.Started) (H : Type) (enc : TypeId × Value → H) :
    ReturnsInHanded {} Try.checked os 8 .any (Rows.wordRowSpec.pre6 enc Try.prog Try.f8 Rows.wordRowRow.domain false) (Rows.wordRowSpec.post enc Try.prog Try.f8 false true false false) :=
  returnsInHanded_of_change (C := Try.checked) prog_own2 started wordRow_inits Try.func8 (wordRow_wit os H enc) (fun _ _ _ _ _ _ hval hW _ _ => wordRow_step hval hW)
set_option maxRecDepth 100000 in
theorem wordRow_holds : Rows.WordRowSaid :=
  OpenClaim.holds_of_wide 8 Try.f8 rfl rfl rfl rfl rfl rfl rfl ⟨rfl, rfl, rfl, rfl, rfl⟩ rfl rfl rfl rfl rfl (by kernel_rfl) Try.func8 (by kernel_rfl)
    (of_decide_eq_true (by kernel_rfl)) (by unfold Func.isWrapper; first | (rw [if_pos (by decide +kernel)]; kernel_rfl) | (rw [if_neg (by decide +kernel)]; exact ⟨rfl, rfl⟩))
    (fun os started H enc _ => wordRow_lifted os started H enc)

end Go.Proofs.Ytkhplfdijadhbaa
