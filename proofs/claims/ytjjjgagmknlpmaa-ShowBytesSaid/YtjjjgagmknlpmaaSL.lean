/- The statements on the texts of trees hold. -/
import Derived.Test.YtjjjgagmknlpmaaFr
import Derived.Test.YtjjjgagmknlpmaaS7
set_option linter.all false
namespace Go.Proofs.Ytjjjgagmknlpmaa
open Go Go.Ab Go.Proofs Go.Fs Go.RowKit
theorem enc_ln {r : List S} (h : EncR (.struct [.int .i64, .str, .int .i64]) r) : ∃ l : Ln, r = lnE l := by
  obtain ⟨a, q, rfl, h1, h⟩ := encL_cons (enc_struct h)
  obtain ⟨b, q, rfl, h2, h⟩ := encL_cons h
  obtain ⟨c, q, rfl, h3, h⟩ := encL_cons h
  obtain rfl := encL_nil h
  obtain ⟨n, rfl, _⟩ := enc_int h1
  obtain ⟨s, rfl, _⟩ := enc_str h2
  obtain ⟨m, rfl, _⟩ := enc_int h3
  exact ⟨⟨n, s, m⟩, rfl⟩
theorem enc_lns {r : List S} (h : EncR (.list 3 (.struct [.int .i64, .str, .int .i64])) r) : ∃ (t : List Ln) (f : Bool), r = [.list 3 (encs lnE t) f] := by
  obtain ⟨rows, f, rfl, -, g⟩ := enc_list h
  obtain ⟨t, rfl⟩ := enc_rows lnE fun r hr => enc_ln (g r hr)
  exact ⟨t, f, rfl⟩
theorem showTexts_res : Try.f3.resultTypes = #[4] := by kernel_rfl
theorem showTexts_sh : shapesOf Try.prog Try.f3.params.toList = some [.list 3 (.struct [.int .i64, .str, .int .i64]), .int .i64] := by kernel_rfl
theorem showTexts_rd : Try.f3.params.toList.all (fun t => Try.prog.readableRec t && decide (t < Try.prog.types.size)) = true := by kernel_rfl
theorem showTexts_inits : Try.checked.prog.inits.idxOf? 3 = none := by kernel_rfl
set_option maxRecDepth 100000 in
set_option linter.unusedVariables false in
theorem showTexts_data (rows : List (List S)) (he : EncRs [.list 3 (.struct [.int .i64, .str, .int .i64]), .int .i64] rows) : textsG (argsOf [.list 3 (.struct [.int .i64, .str, .int .i64]), .int .i64] rows) = some (.c (.s (.bool true))) := by
    obtain ⟨r0, q, rfl, h0, he⟩ := encRs_cons he
    obtain ⟨r1, q, rfl, h1, he⟩ := encRs_cons he
    obtain rfl := encRs_nil he
    obtain ⟨t, f, rfl⟩ := enc_lns h0
    obtain ⟨i, rfl, -⟩ := enc_int h1
    exact textsG_eq (t := t) (f := f) (i := i)
set_option maxRecDepth 100000 in
theorem showTexts_step {H : Type} {enc : TypeId × Value → H} {W : World} {base : Nat} {args : Array Value} {ds gs : List (DataW H)} {before : List MemPlace} (hval : ∀ (j : Nat) t v, Try.f3.params[j]? = some t → args[j]? = some v → Value.okWide Try.prog W .any base t v)
    (hW : DataW.Whole enc Try.prog Try.f3.params.toList Rows.showTextsSpec.vars false W args.toList ds gs before) :
    Calls Try.prog 3 args W fun e W' => ∃ v, e = .returned v ∧ Rows.showTextsSpec.post enc Try.prog Try.f3 false true false false W args v W' :=
  law_step (P := Try.prog) (shs := [.list 3 (.struct [.int .i64, .str, .int .i64]), .int .i64]) contract_law04_ShowTexts prog_laid rfl showTexts_sh showTexts_rd showTexts_res prog_bool (fun ds h => by match ds, h with | [_, _], _ => rfl) hval hW (fun rows he _ => showTexts_data rows he)
set_option maxRecDepth 100000 in
theorem showTexts_wit (os : Os) (H : Type) (enc : TypeId × Value → H) : ∃ (w : World) (tape : Tape) (i : Input), w.os = os ∧ (w.forCall tape i).Shaped Try.checked.prog ∧ i.vars = [] ∧ Input.okWide Try.checked.prog (w.forCall tape i) .any w.heap.size 3 i ∧
    Rows.showTextsSpec.pre6 enc Try.checked.prog Try.f3 Rows.showTextsRow.domain false (w.forCall tape i).memory i.args ∧ ({ modest := false } : Assume).holds Try.checked.prog (lone (Frame.enter Try.checked.prog 3 i.args .normal) [] (w.forCall tape i)) :=
  ChangeSpec.witness6 (enc := enc) (C := Try.checked) false ⟨#[], #[.slice none 0 0, .int .i64 0], []⟩ 8 (by kernel_rfl) (by kernel_rfl) (by kernel_rfl) (by kernel_rfl)
set_option maxRecDepth 100000 in
theorem showTexts_lifted (os : Os) (started : os.Started) (H : Type) (enc : TypeId × Value → H) :
    ReturnsInHanded {} Try.checked os 3 .any (Rows.showTextsSpec.pre6 enc Try.prog Try.f3 Rows.showTextsRow.domain false) (Rows.showTextsSpec.post enc Try.prog Try.f3 false true false false) :=
  returnsInHanded_of_change (C := Try.checked) prog_own2 started showTexts_inits Try.func3 (showTexts_wit os H enc) (fun _ _ _ _ _ _ hval hW _ _ => showTexts_step hval hW)
set_option maxRecDepth 100000 in
theorem showTexts_holds : Rows.ShowTextsSaid :=
  OpenClaim.holds_of_wide 3 Try.f3 rfl rfl rfl rfl rfl rfl rfl ⟨rfl, rfl, rfl, rfl, rfl⟩ rfl rfl rfl rfl rfl (by kernel_rfl) Try.func3 (by kernel_rfl)
    (of_decide_eq_true (by kernel_rfl)) (by unfold Func.isWrapper; first | (rw [if_pos (by decide +kernel)]; kernel_rfl) | (rw [if_neg (by decide +kernel)]; exact ⟨rfl, rfl⟩))
    (fun os started H enc _ => showTexts_lifted os started H enc)

theorem showApart_res : Try.f4.resultTypes = #[4] := by kernel_rfl
theorem showApart_sh : shapesOf Try.prog Try.f4.params.toList = some [.list 3 (.struct [.int .i64, .str, .int .i64]), .list 3 (.struct [.int .i64, .str, .int .i64])] := by kernel_rfl
theorem showApart_rd : Try.f4.params.toList.all (fun t => Try.prog.readableRec t && decide (t < Try.prog.types.size)) = true := by kernel_rfl
theorem showApart_inits : Try.checked.prog.inits.idxOf? 4 = none := by kernel_rfl
set_option maxRecDepth 100000 in
set_option linter.unusedVariables false in
theorem showApart_data (rows : List (List S)) (he : EncRs [.list 3 (.struct [.int .i64, .str, .int .i64]), .list 3 (.struct [.int .i64, .str, .int .i64])] rows) : apartG (argsOf [.list 3 (.struct [.int .i64, .str, .int .i64]), .list 3 (.struct [.int .i64, .str, .int .i64])] rows) = some (.c (.s (.bool true))) := by
    obtain ⟨r0, q, rfl, h0, he⟩ := encRs_cons he
    obtain ⟨r1, q, rfl, h1, he⟩ := encRs_cons he
    obtain rfl := encRs_nil he
    obtain ⟨a, f, rfl⟩ := enc_lns h0
    obtain ⟨b, g, rfl⟩ := enc_lns h1
    exact apartG_eq (a := a) (f := f) (b := b) (g := g)
set_option maxRecDepth 100000 in
theorem showApart_step {H : Type} {enc : TypeId × Value → H} {W : World} {base : Nat} {args : Array Value} {ds gs : List (DataW H)} {before : List MemPlace} (hval : ∀ (j : Nat) t v, Try.f4.params[j]? = some t → args[j]? = some v → Value.okWide Try.prog W .any base t v)
    (hW : DataW.Whole enc Try.prog Try.f4.params.toList Rows.showApartSpec.vars false W args.toList ds gs before) :
    Calls Try.prog 4 args W fun e W' => ∃ v, e = .returned v ∧ Rows.showApartSpec.post enc Try.prog Try.f4 false true false false W args v W' :=
  law_step (P := Try.prog) (shs := [.list 3 (.struct [.int .i64, .str, .int .i64]), .list 3 (.struct [.int .i64, .str, .int .i64])]) contract_law04_ShowApart prog_laid rfl showApart_sh showApart_rd showApart_res prog_bool (fun ds h => by match ds, h with | [_, _], _ => rfl) hval hW (fun rows he _ => showApart_data rows he)
set_option maxRecDepth 100000 in
theorem showApart_wit (os : Os) (H : Type) (enc : TypeId × Value → H) : ∃ (w : World) (tape : Tape) (i : Input), w.os = os ∧ (w.forCall tape i).Shaped Try.checked.prog ∧ i.vars = [] ∧ Input.okWide Try.checked.prog (w.forCall tape i) .any w.heap.size 4 i ∧
    Rows.showApartSpec.pre6 enc Try.checked.prog Try.f4 Rows.showApartRow.domain false (w.forCall tape i).memory i.args ∧ ({ modest := false } : Assume).holds Try.checked.prog (lone (Frame.enter Try.checked.prog 4 i.args .normal) [] (w.forCall tape i)) :=
  ChangeSpec.witness6 (enc := enc) (C := Try.checked) false ⟨#[], #[.slice none 0 0, .slice none 0 0], []⟩ 8 (by kernel_rfl) (by kernel_rfl) (by kernel_rfl) (by kernel_rfl)
set_option maxRecDepth 100000 in
theorem showApart_lifted (os : Os) (started : os.Started) (H : Type) (enc : TypeId × Value → H) :
    ReturnsInHanded {} Try.checked os 4 .any (Rows.showApartSpec.pre6 enc Try.prog Try.f4 Rows.showApartRow.domain false) (Rows.showApartSpec.post enc Try.prog Try.f4 false true false false) :=
  returnsInHanded_of_change (C := Try.checked) prog_own2 started showApart_inits Try.func4 (showApart_wit os H enc) (fun _ _ _ _ _ _ hval hW _ _ => showApart_step hval hW)
set_option maxRecDepth 100000 in
theorem showApart_holds : Rows.ShowApartSaid :=
  OpenClaim.holds_of_wide 4 Try.f4 rfl rfl rfl rfl rfl rfl rfl ⟨rfl, rfl, rfl, rfl, rfl⟩ rfl rfl rfl rfl rfl (by kernel_rfl) Try.func4 (by kernel_rfl)
    (of_decide_eq_true (by kernel_rfl)) (by unfold Func.isWrapper; first | (rw [if_pos (by decide +kernel)]; kernel_rfl) | (rw [if_neg (by decide +kernel)]; exact ⟨rfl, rfl⟩))
    (fun os started H enc _ => showApart_lifted os started H enc)

theorem showBytes_res : Try.f5.resultTypes = #[4] := by kernel_rfl
theorem showBytes_sh : shapesOf Try.prog Try.f5.params.toList = some [.list 3 (.struct [.int .i64, .str, .int .i64])] := by kernel_rfl
theorem showBytes_rd : Try.f5.params.toList.all (fun t => Try.prog.readableRec t && decide (t < Try.prog.types.size)) = true := by kernel_rfl
theorem showBytes_inits : Try.checked.prog.inits.idxOf? 5 = none := by kernel_rfl
set_option maxRecDepth 100000 in
set_option linter.unusedVariables false in
theorem showBytes_data (rows : List (List S)) (he : EncRs [.list 3 (.struct [.int .i64, .str, .int .i64])] rows) : bytesG (argsOf [.list 3 (.struct [.int .i64, .str, .int .i64])] rows) = some (.c (.s (.bool true))) := by
    obtain ⟨r0, q, rfl, h0, he⟩ := encRs_cons he
    obtain rfl := encRs_nil he
    obtain ⟨t, f, rfl⟩ := enc_lns h0
    exact bytesG_eq (t := t) (f := f)
set_option maxRecDepth 100000 in
theorem showBytes_step {H : Type} {enc : TypeId × Value → H} {W : World} {base : Nat} {args : Array Value} {ds gs : List (DataW H)} {before : List MemPlace} (hval : ∀ (j : Nat) t v, Try.f5.params[j]? = some t → args[j]? = some v → Value.okWide Try.prog W .any base t v)
    (hW : DataW.Whole enc Try.prog Try.f5.params.toList Rows.showBytesSpec.vars false W args.toList ds gs before) :
    Calls Try.prog 5 args W fun e W' => ∃ v, e = .returned v ∧ Rows.showBytesSpec.post enc Try.prog Try.f5 false true false false W args v W' :=
  law_step (P := Try.prog) (shs := [.list 3 (.struct [.int .i64, .str, .int .i64])]) contract_law04_ShowBytes prog_laid rfl showBytes_sh showBytes_rd showBytes_res prog_bool (fun ds h => by match ds, h with | [_], _ => rfl) hval hW (fun rows he _ => showBytes_data rows he)
set_option maxRecDepth 100000 in
theorem showBytes_wit (os : Os) (H : Type) (enc : TypeId × Value → H) : ∃ (w : World) (tape : Tape) (i : Input), w.os = os ∧ (w.forCall tape i).Shaped Try.checked.prog ∧ i.vars = [] ∧ Input.okWide Try.checked.prog (w.forCall tape i) .any w.heap.size 5 i ∧
    Rows.showBytesSpec.pre6 enc Try.checked.prog Try.f5 Rows.showBytesRow.domain false (w.forCall tape i).memory i.args ∧ ({ modest := false } : Assume).holds Try.checked.prog (lone (Frame.enter Try.checked.prog 5 i.args .normal) [] (w.forCall tape i)) :=
  ChangeSpec.witness6 (enc := enc) (C := Try.checked) false ⟨#[], #[.slice none 0 0], []⟩ 8 (by kernel_rfl) (by kernel_rfl) (by kernel_rfl) (by kernel_rfl)
set_option maxRecDepth 100000 in
theorem showBytes_lifted (os : Os) (started : os.Started) (H : Type) (enc : TypeId × Value → H) :
    ReturnsInHanded {} Try.checked os 5 .any (Rows.showBytesSpec.pre6 enc Try.prog Try.f5 Rows.showBytesRow.domain false) (Rows.showBytesSpec.post enc Try.prog Try.f5 false true false false) :=
  returnsInHanded_of_change (C := Try.checked) prog_own2 started showBytes_inits Try.func5 (showBytes_wit os H enc) (fun _ _ _ _ _ _ hval hW _ _ => showBytes_step hval hW)
set_option maxRecDepth 100000 in
theorem showBytes_holds : Rows.ShowBytesSaid :=
  OpenClaim.holds_of_wide 5 Try.f5 rfl rfl rfl rfl rfl rfl rfl ⟨rfl, rfl, rfl, rfl, rfl⟩ rfl rfl rfl rfl rfl (by kernel_rfl) Try.func5 (by kernel_rfl)
    (of_decide_eq_true (by kernel_rfl)) (by unfold Func.isWrapper; first | (rw [if_pos (by decide +kernel)]; kernel_rfl) | (rw [if_neg (by decide +kernel)]; exact ⟨rfl, rfl⟩))
    (fun os started H enc _ => showBytes_lifted os started H enc)

theorem showMarked_res : Try.f6.resultTypes = #[4] := by kernel_rfl
theorem showMarked_sh : shapesOf Try.prog Try.f6.params.toList = some [.list 3 (.struct [.int .i64, .str, .int .i64]), .int .u8] := by kernel_rfl
theorem showMarked_rd : Try.f6.params.toList.all (fun t => Try.prog.readableRec t && decide (t < Try.prog.types.size)) = true := by kernel_rfl
theorem showMarked_inits : Try.checked.prog.inits.idxOf? 6 = none := by kernel_rfl
set_option maxRecDepth 100000 in
set_option linter.unusedVariables false in
theorem showMarked_data (rows : List (List S)) (he : EncRs [.list 3 (.struct [.int .i64, .str, .int .i64]), .int .u8] rows) : markedG (argsOf [.list 3 (.struct [.int .i64, .str, .int .i64]), .int .u8] rows) = some (.c (.s (.bool true))) := by
    obtain ⟨r0, q, rfl, h0, he⟩ := encRs_cons he
    obtain ⟨r1, q, rfl, h1, he⟩ := encRs_cons he
    obtain rfl := encRs_nil he
    obtain ⟨t, f, rfl⟩ := enc_lns h0
    obtain ⟨i, rfl, hi⟩ := enc_int h1
    have hc : 0 ≤ i ∧ i < 256 := by
      have e1 : IntKind.u8.min = 0 := by decide +kernel
      have e2 : IntKind.u8.max = 255 := by decide +kernel
      omega
    have := markedG_eq (t := t) (f := f) (i := i)
    rw [if_pos hc] at this
    exact this
set_option maxRecDepth 100000 in
theorem showMarked_step {H : Type} {enc : TypeId × Value → H} {W : World} {base : Nat} {args : Array Value} {ds gs : List (DataW H)} {before : List MemPlace} (hval : ∀ (j : Nat) t v, Try.f6.params[j]? = some t → args[j]? = some v → Value.okWide Try.prog W .any base t v)
    (hW : DataW.Whole enc Try.prog Try.f6.params.toList Rows.showMarkedSpec.vars false W args.toList ds gs before) :
    Calls Try.prog 6 args W fun e W' => ∃ v, e = .returned v ∧ Rows.showMarkedSpec.post enc Try.prog Try.f6 false true false false W args v W' :=
  law_step (P := Try.prog) (shs := [.list 3 (.struct [.int .i64, .str, .int .i64]), .int .u8]) contract_law04_ShowMarked prog_laid rfl showMarked_sh showMarked_rd showMarked_res prog_bool (fun ds h => by match ds, h with | [_, _], _ => rfl) hval hW (fun rows he _ => showMarked_data rows he)
set_option maxRecDepth 100000 in
theorem showMarked_wit (os : Os) (H : Type) (enc : TypeId × Value → H) : ∃ (w : World) (tape : Tape) (i : Input), w.os = os ∧ (w.forCall tape i).Shaped Try.checked.prog ∧ i.vars = [] ∧ Input.okWide Try.checked.prog (w.forCall tape i) .any w.heap.size 6 i ∧
    Rows.showMarkedSpec.pre6 enc Try.checked.prog Try.f6 Rows.showMarkedRow.domain false (w.forCall tape i).memory i.args ∧ ({ modest := false } : Assume).holds Try.checked.prog (lone (Frame.enter Try.checked.prog 6 i.args .normal) [] (w.forCall tape i)) :=
  ChangeSpec.witness6 (enc := enc) (C := Try.checked) false ⟨#[], #[.slice none 0 0, .int .u8 0], []⟩ 8 (by kernel_rfl) (by kernel_rfl) (by kernel_rfl) (by kernel_rfl)
set_option maxRecDepth 100000 in
theorem showMarked_lifted (os : Os) (started : os.Started) (H : Type) (enc : TypeId × Value → H) :
    ReturnsInHanded {} Try.checked os 6 .any (Rows.showMarkedSpec.pre6 enc Try.prog Try.f6 Rows.showMarkedRow.domain false) (Rows.showMarkedSpec.post enc Try.prog Try.f6 false true false false) :=
  returnsInHanded_of_change (C := Try.checked) prog_own2 started showMarked_inits Try.func6 (showMarked_wit os H enc) (fun _ _ _ _ _ _ hval hW _ _ => showMarked_step hval hW)
set_option maxRecDepth 100000 in
theorem showMarked_holds : Rows.ShowMarkedSaid :=
  OpenClaim.holds_of_wide 6 Try.f6 rfl rfl rfl rfl rfl rfl rfl ⟨rfl, rfl, rfl, rfl, rfl⟩ rfl rfl rfl rfl rfl (by kernel_rfl) Try.func6 (by kernel_rfl)
    (of_decide_eq_true (by kernel_rfl)) (by unfold Func.isWrapper; first | (rw [if_pos (by decide +kernel)]; kernel_rfl) | (rw [if_neg (by decide +kernel)]; exact ⟨rfl, rfl⟩))
    (fun os started H enc _ => showMarked_lifted os started H enc)

theorem showRows_res : Try.f7.resultTypes = #[4] := by kernel_rfl
theorem showRows_sh : shapesOf Try.prog Try.f7.params.toList = some [.list 3 (.struct [.int .i64, .str, .int .i64])] := by kernel_rfl
theorem showRows_rd : Try.f7.params.toList.all (fun t => Try.prog.readableRec t && decide (t < Try.prog.types.size)) = true := by kernel_rfl
theorem showRows_inits : Try.checked.prog.inits.idxOf? 7 = none := by kernel_rfl
set_option maxRecDepth 100000 in
set_option linter.unusedVariables false in
theorem showRows_data (rows : List (List S)) (he : EncRs [.list 3 (.struct [.int .i64, .str, .int .i64])] rows) : rowsG (argsOf [.list 3 (.struct [.int .i64, .str, .int .i64])] rows) = some (.c (.s (.bool true))) := by
    obtain ⟨r0, q, rfl, h0, he⟩ := encRs_cons he
    obtain rfl := encRs_nil he
    obtain ⟨t, f, rfl⟩ := enc_lns h0
    exact rowsG_eq (t := t) (f := f)
set_option maxRecDepth 100000 in
theorem showRows_step {H : Type} {enc : TypeId × Value → H} {W : World} {base : Nat} {args : Array Value} {ds gs : List (DataW H)} {before : List MemPlace} (hval : ∀ (j : Nat) t v, Try.f7.params[j]? = some t → args[j]? = some v → Value.okWide Try.prog W .any base t v)
    (hW : DataW.Whole enc Try.prog Try.f7.params.toList Rows.showRowsSpec.vars false W args.toList ds gs before) :
    Calls Try.prog 7 args W fun e W' => ∃ v, e = .returned v ∧ Rows.showRowsSpec.post enc Try.prog Try.f7 false true false false W args v W' :=
  law_step (P := Try.prog) (shs := [.list 3 (.struct [.int .i64, .str, .int .i64])]) contract_law04_ShowRows prog_laid rfl showRows_sh showRows_rd showRows_res prog_bool (fun ds h => by match ds, h with | [_], _ => rfl) hval hW (fun rows he _ => showRows_data rows he)
set_option maxRecDepth 100000 in
theorem showRows_wit (os : Os) (H : Type) (enc : TypeId × Value → H) : ∃ (w : World) (tape : Tape) (i : Input), w.os = os ∧ (w.forCall tape i).Shaped Try.checked.prog ∧ i.vars = [] ∧ Input.okWide Try.checked.prog (w.forCall tape i) .any w.heap.size 7 i ∧
    Rows.showRowsSpec.pre6 enc Try.checked.prog Try.f7 Rows.showRowsRow.domain false (w.forCall tape i).memory i.args ∧ ({ modest := false } : Assume).holds Try.checked.prog (lone (Frame.enter Try.checked.prog 7 i.args .normal) [] (w.forCall tape i)) :=
  ChangeSpec.witness6 (enc := enc) (C := Try.checked) false ⟨#[], #[.slice none 0 0], []⟩ 8 (by kernel_rfl) (by kernel_rfl) (by kernel_rfl) (by kernel_rfl)
set_option maxRecDepth 100000 in
theorem showRows_lifted (os : Os) (started : os.Started) (H : Type) (enc : TypeId × Value → H) :
    ReturnsInHanded {} Try.checked os 7 .any (Rows.showRowsSpec.pre6 enc Try.prog Try.f7 Rows.showRowsRow.domain false) (Rows.showRowsSpec.post enc Try.prog Try.f7 false true false false) :=
  returnsInHanded_of_change (C := Try.checked) prog_own2 started showRows_inits Try.func7 (showRows_wit os H enc) (fun _ _ _ _ _ _ hval hW _ _ => showRows_step hval hW)
set_option maxRecDepth 100000 in
theorem showRows_holds : Rows.ShowRowsSaid :=
  OpenClaim.holds_of_wide 7 Try.f7 rfl rfl rfl rfl rfl rfl rfl ⟨rfl, rfl, rfl, rfl, rfl⟩ rfl rfl rfl rfl rfl (by kernel_rfl) Try.func7 (by kernel_rfl)
    (of_decide_eq_true (by kernel_rfl)) (by unfold Func.isWrapper; first | (rw [if_pos (by decide +kernel)]; kernel_rfl) | (rw [if_neg (by decide +kernel)]; exact ⟨rfl, rfl⟩))
    (fun os started H enc _ => showRows_lifted os started H enc)

theorem showParts_res : Try.f8.resultTypes = #[4] := by kernel_rfl
theorem showParts_sh : shapesOf Try.prog Try.f8.params.toList = some [.list 3 (.struct [.int .i64, .str, .int .i64])] := by kernel_rfl
theorem showParts_rd : Try.f8.params.toList.all (fun t => Try.prog.readableRec t && decide (t < Try.prog.types.size)) = true := by kernel_rfl
theorem showParts_inits : Try.checked.prog.inits.idxOf? 8 = none := by kernel_rfl
set_option maxRecDepth 100000 in
set_option linter.unusedVariables false in
theorem showParts_data (rows : List (List S)) (he : EncRs [.list 3 (.struct [.int .i64, .str, .int .i64])] rows) : partsG (argsOf [.list 3 (.struct [.int .i64, .str, .int .i64])] rows) = some (.c (.s (.bool true))) := by
    obtain ⟨r0, q, rfl, h0, he⟩ := encRs_cons he
    obtain rfl := encRs_nil he
    obtain ⟨t, f, rfl⟩ := enc_lns h0
    exact partsG_eq (t := t) (f := f)
set_option maxRecDepth 100000 in
theorem showParts_step {H : Type} {enc : TypeId × Value → H} {W : World} {base : Nat} {args : Array Value} {ds gs : List (DataW H)} {before : List MemPlace} (hval : ∀ (j : Nat) t v, Try.f8.params[j]? = some t → args[j]? = some v → Value.okWide Try.prog W .any base t v)
    (hW : DataW.Whole enc Try.prog Try.f8.params.toList Rows.showPartsSpec.vars false W args.toList ds gs before) :
    Calls Try.prog 8 args W fun e W' => ∃ v, e = .returned v ∧ Rows.showPartsSpec.post enc Try.prog Try.f8 false true false false W args v W' :=
  law_step (P := Try.prog) (shs := [.list 3 (.struct [.int .i64, .str, .int .i64])]) contract_law04_ShowParts prog_laid rfl showParts_sh showParts_rd showParts_res prog_bool (fun ds h => by match ds, h with | [_], _ => rfl) hval hW (fun rows he _ => showParts_data rows he)
set_option maxRecDepth 100000 in
theorem showParts_wit (os : Os) (H : Type) (enc : TypeId × Value → H) : ∃ (w : World) (tape : Tape) (i : Input), w.os = os ∧ (w.forCall tape i).Shaped Try.checked.prog ∧ i.vars = [] ∧ Input.okWide Try.checked.prog (w.forCall tape i) .any w.heap.size 8 i ∧
    Rows.showPartsSpec.pre6 enc Try.checked.prog Try.f8 Rows.showPartsRow.domain false (w.forCall tape i).memory i.args ∧ ({ modest := false } : Assume).holds Try.checked.prog (lone (Frame.enter Try.checked.prog 8 i.args .normal) [] (w.forCall tape i)) :=
  ChangeSpec.witness6 (enc := enc) (C := Try.checked) false ⟨#[], #[.slice none 0 0], []⟩ 8 (by kernel_rfl) (by kernel_rfl) (by kernel_rfl) (by kernel_rfl)
set_option maxRecDepth 100000 in
theorem showParts_lifted (os : Os) (started : os.Started) (H : Type) (enc : TypeId × Value → H) :
    ReturnsInHanded {} Try.checked os 8 .any (Rows.showPartsSpec.pre6 enc Try.prog Try.f8 Rows.showPartsRow.domain false) (Rows.showPartsSpec.post enc Try.prog Try.f8 false true false false) :=
  returnsInHanded_of_change (C := Try.checked) prog_own2 started showParts_inits Try.func8 (showParts_wit os H enc) (fun _ _ _ _ _ _ hval hW _ _ => showParts_step hval hW)
set_option maxRecDepth 100000 in
theorem showParts_holds : Rows.ShowPartsSaid :=
  OpenClaim.holds_of_wide 8 Try.f8 rfl rfl rfl rfl rfl rfl rfl ⟨rfl, rfl, rfl, rfl, rfl⟩ rfl rfl rfl rfl rfl (by kernel_rfl) Try.func8 (by kernel_rfl)
    (of_decide_eq_true (by kernel_rfl)) (by unfold Func.isWrapper; first | (rw [if_pos (by decide +kernel)]; kernel_rfl) | (rw [if_neg (by decide +kernel)]; exact ⟨rfl, rfl⟩))
    (fun os started H enc _ => showParts_lifted os started H enc)

end Go.Proofs.Ytjjjgagmknlpmaa
