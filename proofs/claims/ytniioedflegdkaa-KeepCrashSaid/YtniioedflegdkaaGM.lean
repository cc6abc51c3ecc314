/- The statements on revisions hold. -/
import Derived.Test.YtniioedflegdkaaGE
import Derived.Test.YtniioedflegdkaaG17
set_option linter.all false
namespace Go.Proofs.Ytniioedflegdkaa
open Go Go.Ab Go.Proofs Go.Fs Go.RowKit
theorem enc_kstp {r : List S} (h : EncR (.struct [.bool, .int .i64, .str, .list 1 (.int .i64)]) r) : ∃ s : KStp, r = kstpE s := by
  obtain ⟨b, q, rfl, h2, h⟩ := encL_cons (enc_struct h)
  obtain ⟨d, q, rfl, h4, h⟩ := encL_cons h
  obtain ⟨e, q, rfl, h5, h⟩ := encL_cons h
  obtain ⟨f, q, rfl, h6, h⟩ := encL_cons h
  obtain rfl := encL_nil h
  obtain ⟨cut, rfl⟩ := enc_bool h2
  obtain ⟨most, rfl, _⟩ := enc_int h4
  obtain ⟨t, rfl, _⟩ := enc_str h5
  obtain ⟨r1, g, rfl, _, g1⟩ := enc_list h6
  obtain ⟨keep, rfl⟩ := enc_rows numE fun r hr => enc_num (g1 r hr)
  exact ⟨⟨cut, most, t, keep, g⟩, rfl⟩
theorem keepRoom_res : Try.f9.resultTypes = #[4] := by kernel_rfl
theorem keepRoom_sh : shapesOf Try.prog Try.f9.params.toList = some [.int .u8, .list 1 .str] := by kernel_rfl
theorem keepRoom_rd : Try.f9.params.toList.all (fun t => Try.prog.readableRec t && decide (t < Try.prog.types.size)) = true := by kernel_rfl
theorem keepRoom_inits : Try.checked.prog.inits.idxOf? 9 = none := by kernel_rfl
set_option maxRecDepth 100000 in
set_option linter.unusedVariables false in
theorem keepRoom_data (rows : List (List S)) (he : EncRs [.int .u8, .list 1 .str] rows) : kRoomG (argsOf [.int .u8, .list 1 .str] rows) = some (.c (.s (.bool true))) := by
    obtain ⟨r0, q, rfl, h0, he⟩ := encRs_cons he
    obtain ⟨r1, q, rfl, h1, he⟩ := encRs_cons he
    obtain rfl := encRs_nil he
    obtain ⟨a, rfl, ha⟩ := enc_int h0
    rw [kmin8, kmax8] at ha
    obtain ⟨rows, f, rfl, -, g1⟩ := enc_list h1
    obtain ⟨tx, rfl⟩ := enc_rows strE fun r hr => enc_st (g1 r hr)
    have hc : 0 ≤ a ∧ a < 256 := ⟨by omega, by omega⟩
    have := kRoomG_eq (a := a) (tx := tx) (f := f)
    rw [if_pos hc] at this
    exact this
set_option maxRecDepth 100000 in
theorem keepRoom_step {H : Type} {enc : TypeId × Value → H} {W : World} {base : Nat} {args : Array Value} {ds gs : List (DataW H)} {before : List MemPlace} (hval : ∀ (j : Nat) t v, Try.f9.params[j]? = some t → args[j]? = some v → Value.okWide Try.prog W .any base t v)
    (hW : DataW.Whole enc Try.prog Try.f9.params.toList Rows.keepRoomSpec.vars false W args.toList ds gs before) :
    Calls Try.prog 9 args W fun e W' => ∃ v, e = .returned v ∧ Rows.keepRoomSpec.post enc Try.prog Try.f9 false true false false W args v W' :=
  law_step (P := Try.prog) (shs := [.int .u8, .list 1 .str]) contract_law19_KeepRoom prog_laid rfl keepRoom_sh keepRoom_rd keepRoom_res prog_bool (fun ds h => by match ds, h with | [_, _], _ => rfl) hval hW (fun rows he _ => keepRoom_data rows he)
set_option maxRecDepth 100000 in
theorem keepRoom_wit (os : Os) (H : Type) (enc : TypeId × Value → H) : ∃ (w : World) (tape : Tape) (i : Input), w.os = os ∧ (w.forCall tape i).Shaped Try.checked.prog ∧ i.vars = [] ∧ Input.okWide Try.checked.prog (w.forCall tape i) .any w.heap.size 9 i ∧
    Rows.keepRoomSpec.pre6 enc Try.checked.prog Try.f9 Rows.keepRoomRow.domain false (w.forCall tape i).memory i.args ∧ ({ modest := false } : Assume).holds Try.checked.prog (lone (Frame.enter Try.checked.prog 9 i.args .normal) [] (w.forCall tape i)) :=
  ChangeSpec.witness6 (enc := enc) (C := Try.checked) false ⟨#[], #[.int .u8 0, .slice none 0 0], []⟩ 8 (by kernel_rfl) (by kernel_rfl) (by kernel_rfl) (by kernel_rfl)
set_option maxRecDepth 100000 in
theorem keepRoom_lifted (os : Os) (started : os.Started) (H : Type) (enc : TypeId × Value → H) :
    ReturnsInHanded {} Try.checked os 9 .any (Rows.keepRoomSpec.pre6 enc Try.prog Try.f9 Rows.keepRoomRow.domain false) (Rows.keepRoomSpec.post enc Try.prog Try.f9 false true false false) :=
  returnsInHanded_of_change (C := Try.checked) prog_own2 started keepRoom_inits Try.func9 (keepRoom_wit os H enc) (fun _ _ _ _ _ _ hval hW _ _ => keepRoom_step hval hW)
set_option maxRecDepth 100000 in
theorem keepRoom_holds : Rows.KeepRoomSaid :=
  OpenClaim.holds_of_wide 9 Try.f9 rfl rfl rfl rfl rfl rfl rfl ⟨rfl, rfl, rfl, rfl, rfl⟩ rfl rfl rfl rfl rfl (by kernel_rfl) Try.func9 (by kernel_rfl)
    (of_decide_eq_true (by kernel_rfl)) (by unfold Func.isWrapper; first | (rw [if_pos (by decide +kernel)]; kernel_rfl) | (rw [if_neg (by decide +kernel)]; exact ⟨rfl, rfl⟩))
    (fun os started H enc _ => keepRoom_lifted os started H enc)

theorem keepNumbers_res : Try.f10.resultTypes = #[4] := by kernel_rfl
theorem keepNumbers_sh : shapesOf Try.prog Try.f10.params.toList = some [.int .u8, .list 1 .str] := by kernel_rfl
theorem keepNumbers_rd : Try.f10.params.toList.all (fun t => Try.prog.readableRec t && decide (t < Try.prog.types.size)) = true := by kernel_rfl
theorem keepNumbers_inits : Try.checked.prog.inits.idxOf? 10 = none := by kernel_rfl
set_option maxRecDepth 100000 in
set_option linter.unusedVariables false in
theorem keepNumbers_data (rows : List (List S)) (he : EncRs [.int .u8, .list 1 .str] rows) : kNumbersG (argsOf [.int .u8, .list 1 .str] rows) = some (.c (.s (.bool true))) := by
    obtain ⟨r0, q, rfl, h0, he⟩ := encRs_cons he
    obtain ⟨r1, q, rfl, h1, he⟩ := encRs_cons he
    obtain rfl := encRs_nil he
    obtain ⟨a, rfl, ha⟩ := enc_int h0
    rw [kmin8, kmax8] at ha
    obtain ⟨rows, f, rfl, -, g1⟩ := enc_list h1
    obtain ⟨tx, rfl⟩ := enc_rows strE fun r hr => enc_st (g1 r hr)
    have hc : 0 ≤ a ∧ a < 256 := ⟨by omega, by omega⟩
    have := kNumbersG_eq (a := a) (tx := tx) (f := f)
    rw [if_pos hc] at this
    exact this
set_option maxRecDepth 100000 in
theorem keepNumbers_step {H : Type} {enc : TypeId × Value → H} {W : World} {base : Nat} {args : Array Value} {ds gs : List (DataW H)} {before : List MemPlace} (hval : ∀ (j : Nat) t v, Try.f10.params[j]? = some t → args[j]? = some v → Value.okWide Try.prog W .any base t v)
    (hW : DataW.Whole enc Try.prog Try.f10.params.toList Rows.keepNumbersSpec.vars false W args.toList ds gs before) :
    Calls Try.prog 10 args W fun e W' => ∃ v, e = .returned v ∧ Rows.keepNumbersSpec.post enc Try.prog Try.f10 false true false false W args v W' :=
  law_step (P := Try.prog) (shs := [.int .u8, .list 1 .str]) contract_law19_KeepNumbers prog_laid rfl keepNumbers_sh keepNumbers_rd keepNumbers_res prog_bool (fun ds h => by match ds, h with | [_, _], _ => rfl) hval hW (fun rows he _ => keepNumbers_data rows he)
set_option maxRecDepth 100000 in
theorem keepNumbers_wit (os : Os) (H : Type) (enc : TypeId × Value → H) : ∃ (w : World) (tape : Tape) (i : Input), w.os = os ∧ (w.forCall tape i).Shaped Try.checked.prog ∧ i.vars = [] ∧ Input.okWide Try.checked.prog (w.forCall tape i) .any w.heap.size 10 i ∧
    Rows.keepNumbersSpec.pre6 enc Try.checked.prog Try.f10 Rows.keepNumbersRow.domain false (w.forCall tape i).memory i.args ∧ ({ modest := false } : Assume).holds Try.checked.prog (lone (Frame.enter Try.checked.prog 10 i.args .normal) [] (w.forCall tape i)) :=
  ChangeSpec.witness6 (enc := enc) (C := Try.checked) false ⟨#[], #[.int .u8 0, .slice none 0 0], []⟩ 8 (by kernel_rfl) (by kernel_rfl) (by kernel_rfl) (by kernel_rfl)
set_option maxRecDepth 100000 in
theorem keepNumbers_lifted (os : Os) (started : os.Started) (H : Type) (enc : TypeId × Value → H) :
    ReturnsInHanded {} Try.checked os 10 .any (Rows.keepNumbersSpec.pre6 enc Try.prog Try.f10 Rows.keepNumbersRow.domain false) (Rows.keepNumbersSpec.post enc Try.prog Try.f10 false true false false) :=
  returnsInHanded_of_change (C := Try.checked) prog_own2 started keepNumbers_inits Try.func10 (keepNumbers_wit os H enc) (fun _ _ _ _ _ _ hval hW _ _ => keepNumbers_step hval hW)
set_option maxRecDepth 100000 in
theorem keepNumbers_holds : Rows.KeepNumbersSaid :=
  OpenClaim.holds_of_wide 10 Try.f10 rfl rfl rfl rfl rfl rfl rfl ⟨rfl, rfl, rfl, rfl, rfl⟩ rfl rfl rfl rfl rfl (by kernel_rfl) Try.func10 (by kernel_rfl)
    (of_decide_eq_true (by kernel_rfl)) (by unfold Func.isWrapper; first | (rw [if_pos (by decide +kernel)]; kernel_rfl) | (rw [if_neg (by decide +kernel)]; exact ⟨rfl, rfl⟩))
    (fun os started H enc _ => keepNumbers_lifted os started H enc)

theorem keepAgain_res : Try.f12.resultTypes = #[4] := by kernel_rfl
theorem keepAgain_sh : shapesOf Try.prog Try.f12.params.toList = some [.int .u8, .list 1 .str, .list 1 (.int .i64)] := by kernel_rfl
theorem keepAgain_rd : Try.f12.params.toList.all (fun t => Try.prog.readableRec t && decide (t < Try.prog.types.size)) = true := by kernel_rfl
theorem keepAgain_inits : Try.checked.prog.inits.idxOf? 12 = none := by kernel_rfl
set_option maxRecDepth 100000 in
set_option linter.unusedVariables false in
theorem keepAgain_data (rows : List (List S)) (he : EncRs [.int .u8, .list 1 .str, .list 1 (.int .i64)] rows) : kAgainG (argsOf [.int .u8, .list 1 .str, .list 1 (.int .i64)] rows) = some (.c (.s (.bool true))) := by
    obtain ⟨r0, q, rfl, h0, he⟩ := encRs_cons he
    obtain ⟨r1, q, rfl, h1, he⟩ := encRs_cons he
    obtain ⟨r2, q, rfl, h2, he⟩ := encRs_cons he
    obtain rfl := encRs_nil he
    obtain ⟨a, rfl, ha⟩ := enc_int h0
    rw [kmin8, kmax8] at ha
    obtain ⟨rows, f, rfl, -, g1⟩ := enc_list h1
    obtain ⟨tx, rfl⟩ := enc_rows strE fun r hr => enc_st (g1 r hr)
    obtain ⟨rows, h, rfl, -, g3⟩ := enc_list h2
    obtain ⟨keep, rfl⟩ := enc_rows numE fun r hr => enc_num (g3 r hr)
    have hc : 0 ≤ a ∧ a < 256 := ⟨by omega, by omega⟩
    have := kAgainG_eq (a := a) (tx := tx) (f := f) (keep := keep) (h := h)
    rw [if_pos hc] at this
    exact this
set_option maxRecDepth 100000 in
theorem keepAgain_step {H : Type} {enc : TypeId × Value → H} {W : World} {base : Nat} {args : Array Value} {ds gs : List (DataW H)} {before : List MemPlace} (hval : ∀ (j : Nat) t v, Try.f12.params[j]? = some t → args[j]? = some v → Value.okWide Try.prog W .any base t v)
    (hW : DataW.Whole enc Try.prog Try.f12.params.toList Rows.keepAgainSpec.vars false W args.toList ds gs before) :
    Calls Try.prog 12 args W fun e W' => ∃ v, e = .returned v ∧ Rows.keepAgainSpec.post enc Try.prog Try.f12 false true false false W args v W' :=
  law_step (P := Try.prog) (shs := [.int .u8, .list 1 .str, .list 1 (.int .i64)]) contract_law19_KeepAgain prog_laid rfl keepAgain_sh keepAgain_rd keepAgain_res prog_bool (fun ds h => by match ds, h with | [_, _, _], _ => rfl) hval hW (fun rows he _ => keepAgain_data rows he)
set_option maxRecDepth 100000 in
theorem keepAgain_wit (os : Os) (H : Type) (enc : TypeId × Value → H) : ∃ (w : World) (tape : Tape) (i : Input), w.os = os ∧ (w.forCall tape i).Shaped Try.checked.prog ∧ i.vars = [] ∧ Input.okWide Try.checked.prog (w.forCall tape i) .any w.heap.size 12 i ∧
    Rows.keepAgainSpec.pre6 enc Try.checked.prog Try.f12 Rows.keepAgainRow.domain false (w.forCall tape i).memory i.args ∧ ({ modest := false } : Assume).holds Try.checked.prog (lone (Frame.enter Try.checked.prog 12 i.args .normal) [] (w.forCall tape i)) :=
  ChangeSpec.witness6 (enc := enc) (C := Try.checked) false ⟨#[], #[.int .u8 0, .slice none 0 0, .slice none 0 0], []⟩ 8 (by kernel_rfl) (by kernel_rfl) (by kernel_rfl) (by kernel_rfl)
set_option maxRecDepth 100000 in
theorem keepAgain_lifted (os : Os) (started : os.Started) (H : Type) (enc : TypeId × Value → H) :
    ReturnsInHanded {} Try.checked os 12 .any (Rows.keepAgainSpec.pre6 enc Try.prog Try.f12 Rows.keepAgainRow.domain false) (Rows.keepAgainSpec.post enc Try.prog Try.f12 false true false false) :=
  returnsInHanded_of_change (C := Try.checked) prog_own2 started keepAgain_inits Try.func12 (keepAgain_wit os H enc) (fun _ _ _ _ _ _ hval hW _ _ => keepAgain_step hval hW)
set_option maxRecDepth 100000 in
theorem keepAgain_holds : Rows.KeepAgainSaid :=
  OpenClaim.holds_of_wide 12 Try.f12 rfl rfl rfl rfl rfl rfl rfl ⟨rfl, rfl, rfl, rfl, rfl⟩ rfl rfl rfl rfl rfl (by kernel_rfl) Try.func12 (by kernel_rfl)
    (of_decide_eq_true (by kernel_rfl)) (by unfold Func.isWrapper; first | (rw [if_pos (by decide +kernel)]; kernel_rfl) | (rw [if_neg (by decide +kernel)]; exact ⟨rfl, rfl⟩))
    (fun os started H enc _ => keepAgain_lifted os started H enc)

theorem keepCrash_res : Try.f11.resultTypes = #[4] := by kernel_rfl
theorem keepCrash_sh : shapesOf Try.prog Try.f11.params.toList = some [.int .u8, .list 4 (.struct [.bool, .int .i64, .str, .list 1 (.int .i64)])] := by kernel_rfl
theorem keepCrash_rd : Try.f11.params.toList.all (fun t => Try.prog.readableRec t && decide (t < Try.prog.types.size)) = true := by kernel_rfl
theorem keepCrash_inits : Try.checked.prog.inits.idxOf? 11 = none := by kernel_rfl
set_option maxRecDepth 100000 in
set_option linter.unusedVariables false in
theorem keepCrash_data (rows : List (List S)) (he : EncRs [.int .u8, .list 4 (.struct [.bool, .int .i64, .str, .list 1 (.int .i64)])] rows) : kCrashG (argsOf [.int .u8, .list 4 (.struct [.bool, .int .i64, .str, .list 1 (.int .i64)])] rows) = some (.c (.s (.bool true))) := by
    obtain ⟨r0, q, rfl, h0, he⟩ := encRs_cons he
    obtain ⟨r1, q, rfl, h1, he⟩ := encRs_cons he
    obtain rfl := encRs_nil he
    obtain ⟨a, rfl, ha⟩ := enc_int h0
    rw [kmin8, kmax8] at ha
    obtain ⟨rows, f, rfl, -, g1⟩ := enc_list h1
    obtain ⟨sl, rfl⟩ := enc_rows kstpE fun r hr => enc_kstp (g1 r hr)
    have hc : 0 ≤ a ∧ a < 256 := ⟨by omega, by omega⟩
    have := kCrashG_eq (a := a) (sl := sl) (f := f)
    rw [if_pos hc] at this
    exact this
set_option maxRecDepth 100000 in
theorem keepCrash_step {H : Type} {enc : TypeId × Value → H} {W : World} {base : Nat} {args : Array Value} {ds gs : List (DataW H)} {before : List MemPlace} (hval : ∀ (j : Nat) t v, Try.f11.params[j]? = some t → args[j]? = some v → Value.okWide Try.prog W .any base t v)
    (hW : DataW.Whole enc Try.prog Try.f11.params.toList Rows.keepCrashSpec.vars false W args.toList ds gs before) :
    Calls Try.prog 11 args W fun e W' => ∃ v, e = .returned v ∧ Rows.keepCrashSpec.post enc Try.prog Try.f11 false true false false W args v W' :=
  law_step (P := Try.prog) (shs := [.int .u8, .list 4 (.struct [.bool, .int .i64, .str, .list 1 (.int .i64)])]) contract_law19_KeepCrash prog_laid rfl keepCrash_sh keepCrash_rd keepCrash_res prog_bool (fun ds h => by match ds, h with | [_, _], _ => rfl) hval hW (fun rows he _ => keepCrash_data rows he)
set_option maxRecDepth 100000 in
theorem keepCrash_wit (os : Os) (H : Type) (enc : TypeId × Value → H) : ∃ (w : World) (tape : Tape) (i : Input), w.os = os ∧ (w.forCall tape i).Shaped Try.checked.prog ∧ i.vars = [] ∧ Input.okWide Try.checked.prog (w.forCall tape i) .any w.heap.size 11 i ∧
    Rows.keepCrashSpec.pre6 enc Try.checked.prog Try.f11 Rows.keepCrashRow.domain false (w.forCall tape i).memory i.args ∧ ({ modest := false } : Assume).holds Try.checked.prog (lone (Frame.enter Try.checked.prog 11 i.args .normal) [] (w.forCall tape i)) :=
  ChangeSpec.witness6 (enc := enc) (C := Try.checked) false ⟨#[], #[.int .u8 0, .slice none 0 0], []⟩ 8 (by kernel_rfl) (by kernel_rfl) (by kernel_rfl) (by kernel_rfl)
set_option maxRecDepth 100000 in
theorem keepCrash_lifted (os : Os) (started : os.Started) (H : Type) (enc : TypeId × Value → H) :
    ReturnsInHanded {} Try.checked os 11 .any (Rows.keepCrashSpec.pre6 enc Try.prog Try.f11 Rows.keepCrashRow.domain false) (Rows.keepCrashSpec.post enc Try.prog Try.f11 false true false false) :=
  returnsInHanded_of_change (C := Try.checked) prog_own2 started keepCrash_inits Try.func11 (keepCrash_wit os H enc) (fun _ _ _ _ _ _ hval hW _ _ => keepCrash_step hval hW)
set_option maxRecDepth 100000 in
theorem keepCrash_holds : Rows.KeepCrashSaid :=
  OpenClaim.holds_of_wide 11 Try.f11 rfl rfl rfl rfl rfl rfl rfl ⟨rfl, rfl, rfl, rfl, rfl⟩ rfl rfl rfl rfl rfl (by kernel_rfl) Try.func11 (by kernel_rfl)
    (of_decide_eq_true (by kernel_rfl)) (by unfold Func.isWrapper; first | (rw [if_pos (by decide +kernel)]; kernel_rfl) | (rw [if_neg (by decide +kernel)]; exact ⟨rfl, rfl⟩))
    (fun os started H enc _ => keepCrash_lifted os started H enc)

end Go.Proofs.Ytniioedflegdkaa
