/- The statements on disks hold. -/
import Derived.Test.YtcnemnehjpaggaaFr
import Derived.Test.YtcnemnehjpaggaaAb32
import Derived.Test.YtcnemnehjpaggaaK8
import Derived.Test.YtcnemnehjpaggaaK9
import Derived.Test.YtcnemnehjpaggaaK10
set_option linter.all false
namespace Go.Proofs.Ytcnemnehjpaggaa
open Go Go.Ab Go.Proofs Go.Fs Go.RowKit
theorem enc_wr {r : List S} (h : EncR (.struct [.int .i64, .str]) r) : ∃ w : Wr, r = wrE w := by
  obtain ⟨a, q, rfl, h1, h⟩ := encL_cons (enc_struct h)
  obtain ⟨b, q, rfl, h2, h⟩ := encL_cons h
  obtain rfl := encL_nil h
  obtain ⟨n, rfl, _⟩ := enc_int h1
  obtain ⟨s, rfl, _⟩ := enc_str h2
  exact ⟨⟨n, s⟩, rfl⟩
theorem enc_op {r : List S} (h : EncR (.struct [.bool, .struct [.int .i64, .str]]) r) : ∃ o : DOp, r = opE o := by
  obtain ⟨a, q, rfl, h1, h⟩ := encL_cons (enc_struct h)
  obtain ⟨b, q, rfl, h2, h⟩ := encL_cons h
  obtain rfl := encL_nil h
  obtain ⟨n, rfl⟩ := enc_bool h1
  obtain ⟨w, rfl⟩ := enc_wr h2
  exact ⟨⟨n, w⟩, rfl⟩
theorem enc_num {r : List S} (h : EncR (.int .i64) r) : ∃ n : Int, r = numE n := by
  obtain ⟨n, rfl, _⟩ := enc_int h
  exact ⟨n, rfl⟩
theorem enc_st {r : List S} (h : EncR .str r) : ∃ s : Bs, r = strE s := by
  obtain ⟨n, rfl, _⟩ := enc_str h
  exact ⟨n, rfl⟩
theorem enc_dk {r : List S} (h : EncR (.struct [.list 1 .str, .list 2 (.struct [.int .i64, .str])]) r) : ∃ ss cs f g, r = [.list 1 (encs strE ss) f, .list 2 (encs wrE cs) g] := by
  obtain ⟨a, q, rfl, h1, h⟩ := encL_cons (enc_struct h)
  obtain ⟨b, q, rfl, h2, h⟩ := encL_cons h
  obtain rfl := encL_nil h
  obtain ⟨r1, f, rfl, _, g1⟩ := enc_list h1
  obtain ⟨r2, g, rfl, _, g2⟩ := enc_list h2
  obtain ⟨ss, rfl⟩ := enc_rows strE fun r hr => enc_st (g1 r hr)
  obtain ⟨cs, rfl⟩ := enc_rows wrE fun r hr => enc_wr (g2 r hr)
  exact ⟨ss, cs, f, g, rfl⟩
theorem bulk_st (s : Bs) : 1 ≤ bulkR (strE s) := by simp only [strE, bulkR_cons, bulkR_nil, bulkS_str]; omega
theorem bulk_wr (w : Wr) : 1 ≤ bulkR (wrE w) := by simp only [wrE, bulkR_cons, bulkR_nil, bulkS_str, bulkS_int]; omega
theorem bulk_op (o : DOp) : 1 ≤ bulkR (opE o) := by simp only [opE, bulkR_cons, bulkR_nil, bulkS_str, bulkS_int, bulkS_bool]; omega
theorem bulk_num (n : Int) : 1 ≤ bulkR (numE n) := by simp only [numE, bulkR_cons, bulkR_nil, bulkS_int]; omega
instance fitDecKL (n : Nat) : Decidable (fitC n) := inferInstanceAs (Decidable (n * 24 ≤ 140737488351232))
theorem diskNew_res : Try.f3.resultTypes = #[4] := by kernel_rfl
theorem diskNew_sh : shapesOf Try.prog Try.f3.params.toList = some [.int .i64] := by kernel_rfl
theorem diskNew_rd : Try.f3.params.toList.all (fun t => Try.prog.readableRec t && decide (t < Try.prog.types.size)) = true := by kernel_rfl
theorem diskNew_inits : Try.checked.prog.inits.idxOf? 3 = none := by kernel_rfl
set_option maxRecDepth 100000 in
set_option linter.unusedVariables false in
theorem diskNew_data (rows : List (List S)) (he : EncRs [.int .i64] rows) : dNewG (argsOf [.int .i64] rows) = some (.c (.s (.bool true))) := by
    obtain ⟨r0, q, rfl, h0, he⟩ := encRs_cons he
    obtain rfl := encRs_nil he
    obtain ⟨s0, rfl, g0⟩ := enc_int h0
    rfl
set_option maxRecDepth 100000 in
theorem diskNew_step {H : Type} {enc : TypeId × Value → H} {W : World} {base : Nat} {args : Array Value} {ds gs : List (DataW H)} {before : List MemPlace} (hval : ∀ (j : Nat) t v, Try.f3.params[j]? = some t → args[j]? = some v → Value.okWide Try.prog W .any base t v)
    (hW : DataW.Whole enc Try.prog Try.f3.params.toList Rows.diskNewSpec.vars false W args.toList ds gs before) :
    Calls Try.prog 3 args W fun e W' => ∃ v, e = .returned v ∧ Rows.diskNewSpec.post enc Try.prog Try.f3 false true false false W args v W' :=
  law_step (P := Try.prog) (shs := [.int .i64]) contract_law17_DiskNew prog_laid rfl diskNew_sh diskNew_rd diskNew_res prog_bool (fun ds h => by match ds, h with | [_], _ => rfl) hval hW (fun rows he _ => diskNew_data rows he)
set_option maxRecDepth 100000 in
theorem diskNew_wit (os : Os) (H : Type) (enc : TypeId × Value → H) : ∃ (w : World) (tape : Tape) (i : Input), w.os = os ∧ (w.forCall tape i).Shaped Try.checked.prog ∧ i.vars = [] ∧ Input.okWide Try.checked.prog (w.forCall tape i) .any w.heap.size 3 i ∧
    Rows.diskNewSpec.pre6 enc Try.checked.prog Try.f3 Rows.diskNewRow.domain false (w.forCall tape i).memory i.args ∧ ({ modest := false } : Assume).holds Try.checked.prog (lone (Frame.enter Try.checked.prog 3 i.args .normal) [] (w.forCall tape i)) :=
  ChangeSpec.witness6 (enc := enc) (C := Try.checked) false ⟨#[], #[.int .i64 0], []⟩ 8 (by kernel_rfl) (by kernel_rfl) (by kernel_rfl) (by kernel_rfl)
set_option maxRecDepth 100000 in
theorem diskNew_lifted (os : Os) (started : os.Started) (H : Type) (enc : TypeId × Value → H) :
    ReturnsInHanded {} Try.checked os 3 .any (Rows.diskNewSpec.pre6 enc Try.prog Try.f3 Rows.diskNewRow.domain false) (Rows.diskNewSpec.post enc Try.prog Try.f3 false true false false) :=
  returnsInHanded_of_change (C := Try.checked) prog_own2 started diskNew_inits Try.func3 (diskNew_wit os H enc) (fun _ _ _ _ _ _ hval hW _ _ => diskNew_step hval hW)
set_option maxRecDepth 100000 in
theorem diskNew_holds : Rows.DiskNewSaid :=
  OpenClaim.holds_of_wide 3 Try.f3 rfl rfl rfl rfl rfl rfl rfl ⟨rfl, rfl, rfl, rfl, rfl⟩ rfl rfl rfl rfl rfl (by kernel_rfl) Try.func3 (by kernel_rfl)
    (of_decide_eq_true (by kernel_rfl)) (by unfold Func.isWrapper; first | (rw [if_pos (by decide +kernel)]; kernel_rfl) | (rw [if_neg (by decide +kernel)]; exact ⟨rfl, rfl⟩))
    (fun os started H enc _ => diskNew_lifted os started H enc)

theorem diskExact_res : Try.f4.resultTypes = #[4] := by kernel_rfl
theorem diskExact_sh : shapesOf Try.prog Try.f4.params.toList = some [.struct [.list 1 .str, .list 2 (.struct [.int .i64, .str])], .int .i64, .struct [.int .i64, .str], .list 1 (.int .i64)] := by kernel_rfl
theorem diskExact_rd : Try.f4.params.toList.all (fun t => Try.prog.readableRec t && decide (t < Try.prog.types.size)) = true := by kernel_rfl
theorem diskExact_inits : Try.checked.prog.inits.idxOf? 4 = none := by kernel_rfl
set_option maxRecDepth 100000 in
set_option linter.unusedVariables false in
theorem diskExact_data (rows : List (List S)) (he : EncRs [.struct [.list 1 .str, .list 2 (.struct [.int .i64, .str])], .int .i64, .struct [.int .i64, .str], .list 1 (.int .i64)] rows) (hz : SzRs Try.prog Try.f4.params.toList rows) : dExactG (argsOf [.struct [.list 1 .str, .list 2 (.struct [.int .i64, .str])], .int .i64, .struct [.int .i64, .str], .list 1 (.int .i64)] rows) = some (.c (.s (.bool true))) := by
    obtain ⟨r0, q, rfl, h0, he⟩ := encRs_cons he
    obtain ⟨r1, q, rfl, h1, he⟩ := encRs_cons he
    obtain ⟨r2, q, rfl, h2, he⟩ := encRs_cons he
    obtain ⟨r3, q, rfl, h3, he⟩ := encRs_cons he
    obtain rfl := encRs_nil he
    obtain ⟨ss, cs, f, g, rfl⟩ := enc_dk h0
    obtain ⟨a, rfl, -⟩ := enc_int h1
    obtain ⟨w, rfl⟩ := enc_wr h2
    obtain ⟨rows, h, rfl, -, g3⟩ := enc_list h3
    obtain ⟨keep, rfl⟩ := enc_rows numE fun r hr => enc_num (g3 r hr)
    have z := sz_field (j := 0) (off := 1) (b := 24) hz (by kernel_rfl) rfl rfl
    rw [encs_len] at z
    have hc0 : fitC cs.length := z
    have hc := hc0
    have := dExactG_eq (ss := ss) (cs := cs) (f := f) (g := g) (at_ := a) (a := w.loc) (t := w.data) (keep := keep) (h := h)
    rw [if_pos hc] at this
    exact this
set_option maxRecDepth 100000 in
theorem diskExact_step {H : Type} {enc : TypeId × Value → H} {W : World} {base : Nat} {args : Array Value} {ds gs : List (DataW H)} {before : List MemPlace} (hval : ∀ (j : Nat) t v, Try.f4.params[j]? = some t → args[j]? = some v → Value.okWide Try.prog W .any base t v)
    (hW : DataW.Whole enc Try.prog Try.f4.params.toList Rows.diskExactSpec.vars false W args.toList ds gs before) (hz : (DataW.weightsEach Try.prog (Try.f4.params.toList ++ Rows.diskExactSpec.plain.varTypes Try.prog) (ds ++ gs)).all (· ≤ reachBytes) = true) :
    Calls Try.prog 4 args W fun e W' => ∃ v, e = .returned v ∧ Rows.diskExactSpec.post enc Try.prog Try.f4 false true false false W args v W' :=
  law_stepS (P := Try.prog) (shs := [.struct [.list 1 .str, .list 2 (.struct [.int .i64, .str])], .int .i64, .struct [.int .i64, .str], .list 1 (.int .i64)]) contract_law17_DiskExact prog_laid rfl diskExact_sh diskExact_rd diskExact_res prog_bool (fun ds h => by match ds, h with | [_, _, _, _], _ => rfl) hval hW hz (fun rows he hs => diskExact_data rows he hs)
set_option maxRecDepth 100000 in
theorem diskExact_wit (os : Os) (H : Type) (enc : TypeId × Value → H) : ∃ (w : World) (tape : Tape) (i : Input), w.os = os ∧ (w.forCall tape i).Shaped Try.checked.prog ∧ i.vars = [] ∧ Input.okWide Try.checked.prog (w.forCall tape i) .any w.heap.size 4 i ∧
    Rows.diskExactSpec.pre6 enc Try.checked.prog Try.f4 Rows.diskExactRow.domain false (w.forCall tape i).memory i.args ∧ ({ modest := false } : Assume).holds Try.checked.prog (lone (Frame.enter Try.checked.prog 4 i.args .normal) [] (w.forCall tape i)) :=
  ChangeSpec.witness6 (enc := enc) (C := Try.checked) false ⟨#[], #[.agg #[.slice none 0 0, .slice none 0 0], .int .i64 0, .agg #[.int .i64 0, .string ⟨#[]⟩], .slice none 0 0], []⟩ 8 (by kernel_rfl) (by kernel_rfl) (by kernel_rfl) (by kernel_rfl)
set_option maxRecDepth 100000 in
theorem diskExact_lifted (os : Os) (started : os.Started) (H : Type) (enc : TypeId × Value → H) :
    ReturnsInHanded {} Try.checked os 4 .any (Rows.diskExactSpec.pre6 enc Try.prog Try.f4 Rows.diskExactRow.domain false) (Rows.diskExactSpec.post enc Try.prog Try.f4 false true false false) :=
  returnsInHanded_of_change_sized (C := Try.checked) prog_own2 started diskExact_inits Try.func4 (diskExact_wit os H enc) (fun _ _ _ _ _ _ hval hW _ hz _ => diskExact_step hval hW hz)
set_option maxRecDepth 100000 in
theorem diskExact_holds : Rows.DiskExactSaid :=
  OpenClaim.holds_of_wide 4 Try.f4 rfl rfl rfl rfl rfl rfl rfl ⟨rfl, rfl, rfl, rfl, rfl⟩ rfl rfl rfl rfl rfl (by kernel_rfl) Try.func4 (by kernel_rfl)
    (of_decide_eq_true (by kernel_rfl)) (by unfold Func.isWrapper; first | (rw [if_pos (by decide +kernel)]; kernel_rfl) | (rw [if_neg (by decide +kernel)]; exact ⟨rfl, rfl⟩))
    (fun os started H enc _ => diskExact_lifted os started H enc)

theorem diskRuns_res : Try.f5.resultTypes = #[4] := by kernel_rfl
theorem diskRuns_sh : shapesOf Try.prog Try.f5.params.toList = some [.struct [.list 1 .str, .list 2 (.struct [.int .i64, .str])], .list 3 (.struct [.bool, .struct [.int .i64, .str]]), .int .i64] := by kernel_rfl
theorem diskRuns_rd : Try.f5.params.toList.all (fun t => Try.prog.readableRec t && decide (t < Try.prog.types.size)) = true := by kernel_rfl
theorem diskRuns_inits : Try.checked.prog.inits.idxOf? 5 = none := by kernel_rfl
set_option maxRecDepth 100000 in
set_option linter.unusedVariables false in
theorem diskRuns_data (rows : List (List S)) (he : EncRs [.struct [.list 1 .str, .list 2 (.struct [.int .i64, .str])], .list 3 (.struct [.bool, .struct [.int .i64, .str]]), .int .i64] rows) (hz : SzRs Try.prog Try.f5.params.toList rows) : dRunsG (argsOf [.struct [.list 1 .str, .list 2 (.struct [.int .i64, .str])], .list 3 (.struct [.bool, .struct [.int .i64, .str]]), .int .i64] rows) = some (.c (.s (.bool true))) := by
    obtain ⟨r0, q, rfl, h0, he⟩ := encRs_cons he
    obtain ⟨r1, q, rfl, h1, he⟩ := encRs_cons he
    obtain ⟨r2, q, rfl, h2, he⟩ := encRs_cons he
    obtain rfl := encRs_nil he
    obtain ⟨ss, cs, f, g, rfl⟩ := enc_dk h0
    obtain ⟨a, rfl, -⟩ := enc_int h2
    obtain ⟨rows, h, rfl, -, g3⟩ := enc_list h1
    obtain ⟨l, rfl⟩ := enc_rows opE fun r hr => enc_op (g3 r hr)
    have z := sz_field (j := 0) (off := 1) (b := 24) hz (by kernel_rfl) rfl rfl
    rw [encs_len] at z
    have hc0 : fitC cs.length := z
    have hc := hc0
    have := dRunsG_eq (ss := ss) (cs := cs) (f := f) (g := g) (l := l) (h := h) (n := a)
    rw [if_pos hc] at this
    exact this
set_option maxRecDepth 100000 in
theorem diskRuns_step {H : Type} {enc : TypeId × Value → H} {W : World} {base : Nat} {args : Array Value} {ds gs : List (DataW H)} {before : List MemPlace} (hval : ∀ (j : Nat) t v, Try.f5.params[j]? = some t → args[j]? = some v → Value.okWide Try.prog W .any base t v)
    (hW : DataW.Whole enc Try.prog Try.f5.params.toList Rows.diskRunsSpec.vars false W args.toList ds gs before) (hz : (DataW.weightsEach Try.prog (Try.f5.params.toList ++ Rows.diskRunsSpec.plain.varTypes Try.prog) (ds ++ gs)).all (· ≤ reachBytes) = true) :
    Calls Try.prog 5 args W fun e W' => ∃ v, e = .returned v ∧ Rows.diskRunsSpec.post enc Try.prog Try.f5 false true false false W args v W' :=
  law_stepS (P := Try.prog) (shs := [.struct [.list 1 .str, .list 2 (.struct [.int .i64, .str])], .list 3 (.struct [.bool, .struct [.int .i64, .str]]), .int .i64]) contract_law17_DiskRuns prog_laid rfl diskRuns_sh diskRuns_rd diskRuns_res prog_bool (fun ds h => by match ds, h with | [_, _, _], _ => rfl) hval hW hz (fun rows he hs => diskRuns_data rows he hs)
set_option maxRecDepth 100000 in
theorem diskRuns_wit (os : Os) (H : Type) (enc : TypeId × Value → H) : ∃ (w : World) (tape : Tape) (i : Input), w.os = os ∧ (w.forCall tape i).Shaped Try.checked.prog ∧ i.vars = [] ∧ Input.okWide Try.checked.prog (w.forCall tape i) .any w.heap.size 5 i ∧
    Rows.diskRunsSpec.pre6 enc Try.checked.prog Try.f5 Rows.diskRunsRow.domain false (w.forCall tape i).memory i.args ∧ ({ modest := false } : Assume).holds Try.checked.prog (lone (Frame.enter Try.checked.prog 5 i.args .normal) [] (w.forCall tape i)) :=
  ChangeSpec.witness6 (enc := enc) (C := Try.checked) false ⟨#[], #[.agg #[.slice none 0 0, .slice none 0 0], .slice none 0 0, .int .i64 0], []⟩ 8 (by kernel_rfl) (by kernel_rfl) (by kernel_rfl) (by kernel_rfl)
set_option maxRecDepth 100000 in
theorem diskRuns_lifted (os : Os) (started : os.Started) (H : Type) (enc : TypeId × Value → H) :
    ReturnsInHanded {} Try.checked os 5 .any (Rows.diskRunsSpec.pre6 enc Try.prog Try.f5 Rows.diskRunsRow.domain false) (Rows.diskRunsSpec.post enc Try.prog Try.f5 false true false false) :=
  returnsInHanded_of_change_sized (C := Try.checked) prog_own2 started diskRuns_inits Try.func5 (diskRuns_wit os H enc) (fun _ _ _ _ _ _ hval hW _ hz _ => diskRuns_step hval hW hz)
set_option maxRecDepth 100000 in
theorem diskRuns_holds : Rows.DiskRunsSaid :=
  OpenClaim.holds_of_wide 5 Try.f5 rfl rfl rfl rfl rfl rfl rfl ⟨rfl, rfl, rfl, rfl, rfl⟩ rfl rfl rfl rfl rfl (by kernel_rfl) Try.func5 (by kernel_rfl)
    (of_decide_eq_true (by kernel_rfl)) (by unfold Func.isWrapper; first | (rw [if_pos (by decide +kernel)]; kernel_rfl) | (rw [if_neg (by decide +kernel)]; exact ⟨rfl, rfl⟩))
    (fun os started H enc _ => diskRuns_lifted os started H enc)

theorem diskCalm_res : Try.f6.resultTypes = #[4] := by kernel_rfl
theorem diskCalm_sh : shapesOf Try.prog Try.f6.params.toList = some [.struct [.list 1 .str, .list 2 (.struct [.int .i64, .str])], .list 1 (.int .i64)] := by kernel_rfl
theorem diskCalm_rd : Try.f6.params.toList.all (fun t => Try.prog.readableRec t && decide (t < Try.prog.types.size)) = true := by kernel_rfl
theorem diskCalm_inits : Try.checked.prog.inits.idxOf? 6 = none := by kernel_rfl
set_option maxRecDepth 100000 in
set_option linter.unusedVariables false in
theorem diskCalm_data (rows : List (List S)) (he : EncRs [.struct [.list 1 .str, .list 2 (.struct [.int .i64, .str])], .list 1 (.int .i64)] rows) (hz : SzRs Try.prog Try.f6.params.toList rows) : dCalmG (argsOf [.struct [.list 1 .str, .list 2 (.struct [.int .i64, .str])], .list 1 (.int .i64)] rows) = some (.c (.s (.bool true))) := by
    obtain ⟨r0, q, rfl, h0, he⟩ := encRs_cons he
    obtain ⟨r3, q, rfl, h3, he⟩ := encRs_cons he
    obtain rfl := encRs_nil he
    obtain ⟨ss, cs, f, g, rfl⟩ := enc_dk h0
    obtain ⟨rows, h, rfl, -, g3⟩ := enc_list h3
    obtain ⟨keep, rfl⟩ := enc_rows numE fun r hr => enc_num (g3 r hr)
    have z := sz_field (j := 0) (off := 1) (b := 24) hz (by kernel_rfl) rfl rfl
    rw [encs_len] at z
    have hc0 : fitC cs.length := z
    have hc := hc0
    have := dCalmG_eq (ss := ss) (cs := cs) (f := f) (g := g) (keep := keep) (h := h)
    rw [if_pos hc] at this
    exact this
set_option maxRecDepth 100000 in
theorem diskCalm_step {H : Type} {enc : TypeId × Value → H} {W : World} {base : Nat} {args : Array Value} {ds gs : List (DataW H)} {before : List MemPlace} (hval : ∀ (j : Nat) t v, Try.f6.params[j]? = some t → args[j]? = some v → Value.okWide Try.prog W .any base t v)
    (hW : DataW.Whole enc Try.prog Try.f6.params.toList Rows.diskCalmSpec.vars false W args.toList ds gs before) (hz : (DataW.weightsEach Try.prog (Try.f6.params.toList ++ Rows.diskCalmSpec.plain.varTypes Try.prog) (ds ++ gs)).all (· ≤ reachBytes) = true) :
    Calls Try.prog 6 args W fun e W' => ∃ v, e = .returned v ∧ Rows.diskCalmSpec.post enc Try.prog Try.f6 false true false false W args v W' :=
  law_stepS (P := Try.prog) (shs := [.struct [.list 1 .str, .list 2 (.struct [.int .i64, .str])], .list 1 (.int .i64)]) contract_law17_DiskCalm prog_laid rfl diskCalm_sh diskCalm_rd diskCalm_res prog_bool (fun ds h => by match ds, h with | [_, _], _ => rfl) hval hW hz (fun rows he hs => diskCalm_data rows he hs)
set_option maxRecDepth 100000 in
theorem diskCalm_wit (os : Os) (H : Type) (enc : TypeId × Value → H) : ∃ (w : World) (tape : Tape) (i : Input), w.os = os ∧ (w.forCall tape i).Shaped Try.checked.prog ∧ i.vars = [] ∧ Input.okWide Try.checked.prog (w.forCall tape i) .any w.heap.size 6 i ∧
    Rows.diskCalmSpec.pre6 enc Try.checked.prog Try.f6 Rows.diskCalmRow.domain false (w.forCall tape i).memory i.args ∧ ({ modest := false } : Assume).holds Try.checked.prog (lone (Frame.enter Try.checked.prog 6 i.args .normal) [] (w.forCall tape i)) :=
  ChangeSpec.witness6 (enc := enc) (C := Try.checked) false ⟨#[], #[.agg #[.slice none 0 0, .slice none 0 0], .slice none 0 0], []⟩ 8 (by kernel_rfl) (by kernel_rfl) (by kernel_rfl) (by kernel_rfl)
set_option maxRecDepth 100000 in
theorem diskCalm_lifted (os : Os) (started : os.Started) (H : Type) (enc : TypeId × Value → H) :
    ReturnsInHanded {} Try.checked os 6 .any (Rows.diskCalmSpec.pre6 enc Try.prog Try.f6 Rows.diskCalmRow.domain false) (Rows.diskCalmSpec.post enc Try.prog Try.f6 false true false false) :=
  returnsInHanded_of_change_sized (C := Try.checked) prog_own2 started diskCalm_inits Try.func6 (diskCalm_wit os H enc) (fun _ _ _ _ _ _ hval hW _ hz _ => diskCalm_step hval hW hz)
set_option maxRecDepth 100000 in
theorem diskCalm_holds : Rows.DiskCalmSaid :=
  OpenClaim.holds_of_wide 6 Try.f6 rfl rfl rfl rfl rfl rfl rfl ⟨rfl, rfl, rfl, rfl, rfl⟩ rfl rfl rfl rfl rfl (by kernel_rfl) Try.func6 (by kernel_rfl)
    (of_decide_eq_true (by kernel_rfl)) (by unfold Func.isWrapper; first | (rw [if_pos (by decide +kernel)]; kernel_rfl) | (rw [if_neg (by decide +kernel)]; exact ⟨rfl, rfl⟩))
    (fun os started H enc _ => diskCalm_lifted os started H enc)

theorem diskSplit_res : Try.f7.resultTypes = #[4] := by kernel_rfl
theorem diskSplit_sh : shapesOf Try.prog Try.f7.params.toList = some [.struct [.list 1 .str, .list 2 (.struct [.int .i64, .str])], .list 3 (.struct [.bool, .struct [.int .i64, .str]]), .int .u8] := by kernel_rfl
theorem diskSplit_rd : Try.f7.params.toList.all (fun t => Try.prog.readableRec t && decide (t < Try.prog.types.size)) = true := by kernel_rfl
theorem diskSplit_inits : Try.checked.prog.inits.idxOf? 7 = none := by kernel_rfl
set_option maxRecDepth 100000 in
set_option linter.unusedVariables false in
theorem diskSplit_data (rows : List (List S)) (he : EncRs [.struct [.list 1 .str, .list 2 (.struct [.int .i64, .str])], .list 3 (.struct [.bool, .struct [.int .i64, .str]]), .int .u8] rows) (hz : SzRs Try.prog Try.f7.params.toList rows) : dSplitG (argsOf [.struct [.list 1 .str, .list 2 (.struct [.int .i64, .str])], .list 3 (.struct [.bool, .struct [.int .i64, .str]]), .int .u8] rows) = some (.c (.s (.bool true))) := by
    obtain ⟨r0, q, rfl, h0, he⟩ := encRs_cons he
    obtain ⟨r1, q, rfl, h1, he⟩ := encRs_cons he
    obtain ⟨r2, q, rfl, h2, he⟩ := encRs_cons he
    obtain rfl := encRs_nil he
    obtain ⟨ss, cs, f, g, rfl⟩ := enc_dk h0
    obtain ⟨a, rfl, ha⟩ := enc_int h2
    rw [kmin8, kmax8] at ha
    obtain ⟨rows, h, rfl, -, g3⟩ := enc_list h1
    obtain ⟨l, rfl⟩ := enc_rows opE fun r hr => enc_op (g3 r hr)
    have z := sz_field (j := 0) (off := 1) (b := 24) hz (by kernel_rfl) rfl rfl
    rw [encs_len] at z
    have hc0 : fitC cs.length := z
    have hc : fitC cs.length ∧ 0 ≤ a ∧ a < 256 := ⟨hc0, by omega, by omega⟩
    have := dSplitG_eq (ss := ss) (cs := cs) (f := f) (g := g) (l := l) (h := h) (a := a)
    rw [if_pos hc] at this
    exact this
set_option maxRecDepth 100000 in
theorem diskSplit_step {H : Type} {enc : TypeId × Value → H} {W : World} {base : Nat} {args : Array Value} {ds gs : List (DataW H)} {before : List MemPlace} (hval : ∀ (j : Nat) t v, Try.f7.params[j]? = some t → args[j]? = some v → Value.okWide Try.prog W .any base t v)
    (hW : DataW.Whole enc Try.prog Try.f7.params.toList Rows.diskSplitSpec.vars false W args.toList ds gs before) (hz : (DataW.weightsEach Try.prog (Try.f7.params.toList ++ Rows.diskSplitSpec.plain.varTypes Try.prog) (ds ++ gs)).all (· ≤ reachBytes) = true) :
    Calls Try.prog 7 args W fun e W' => ∃ v, e = .returned v ∧ Rows.diskSplitSpec.post enc Try.prog Try.f7 false true false false W args v W' :=
  law_stepS (P := Try.prog) (shs := [.struct [.list 1 .str, .list 2 (.struct [.int .i64, .str])], .list 3 (.struct [.bool, .struct [.int .i64, .str]]), .int .u8]) contract_law17_DiskSplit prog_laid rfl diskSplit_sh diskSplit_rd diskSplit_res prog_bool (fun ds h => by match ds, h with | [_, _, _], _ => rfl) hval hW hz (fun rows he hs => diskSplit_data rows he hs)
set_option maxRecDepth 100000 in
theorem diskSplit_wit (os : Os) (H : Type) (enc : TypeId × Value → H) : ∃ (w : World) (tape : Tape) (i : Input), w.os = os ∧ (w.forCall tape i).Shaped Try.checked.prog ∧ i.vars = [] ∧ Input.okWide Try.checked.prog (w.forCall tape i) .any w.heap.size 7 i ∧
    Rows.diskSplitSpec.pre6 enc Try.checked.prog Try.f7 Rows.diskSplitRow.domain false (w.forCall tape i).memory i.args ∧ ({ modest := false } : Assume).holds Try.checked.prog (lone (Frame.enter Try.checked.prog 7 i.args .normal) [] (w.forCall tape i)) :=
  ChangeSpec.witness6 (enc := enc) (C := Try.checked) false ⟨#[], #[.agg #[.slice none 0 0, .slice none 0 0], .slice none 0 0, .int .u8 0], []⟩ 8 (by kernel_rfl) (by kernel_rfl) (by kernel_rfl) (by kernel_rfl)
set_option maxRecDepth 100000 in
theorem diskSplit_lifted (os : Os) (started : os.Started) (H : Type) (enc : TypeId × Value → H) :
    ReturnsInHanded {} Try.checked os 7 .any (Rows.diskSplitSpec.pre6 enc Try.prog Try.f7 Rows.diskSplitRow.domain false) (Rows.diskSplitSpec.post enc Try.prog Try.f7 false true false false) :=
  returnsInHanded_of_change_sized (C := Try.checked) prog_own2 started diskSplit_inits Try.func7 (diskSplit_wit os H enc) (fun _ _ _ _ _ _ hval hW _ hz _ => diskSplit_step hval hW hz)
set_option maxRecDepth 100000 in
theorem diskSplit_holds : Rows.DiskSplitSaid :=
  OpenClaim.holds_of_wide 7 Try.f7 rfl rfl rfl rfl rfl rfl rfl ⟨rfl, rfl, rfl, rfl, rfl⟩ rfl rfl rfl rfl rfl (by kernel_rfl) Try.func7 (by kernel_rfl)
    (of_decide_eq_true (by kernel_rfl)) (by unfold Func.isWrapper; first | (rw [if_pos (by decide +kernel)]; kernel_rfl) | (rw [if_neg (by decide +kernel)]; exact ⟨rfl, rfl⟩))
    (fun os started H enc _ => diskSplit_lifted os started H enc)

theorem diskApart_res : Try.f8.resultTypes = #[4] := by kernel_rfl
theorem diskApart_sh : shapesOf Try.prog Try.f8.params.toList = some [.struct [.list 1 .str, .list 2 (.struct [.int .i64, .str])], .struct [.int .i64, .str], .struct [.int .i64, .str]] := by kernel_rfl
theorem diskApart_rd : Try.f8.params.toList.all (fun t => Try.prog.readableRec t && decide (t < Try.prog.types.size)) = true := by kernel_rfl
theorem diskApart_inits : Try.checked.prog.inits.idxOf? 8 = none := by kernel_rfl
set_option maxRecDepth 100000 in
set_option linter.unusedVariables false in
theorem diskApart_data (rows : List (List S)) (he : EncRs [.struct [.list 1 .str, .list 2 (.struct [.int .i64, .str])], .struct [.int .i64, .str], .struct [.int .i64, .str]] rows) (hz : SzRs Try.prog Try.f8.params.toList rows) : dApartG (argsOf [.struct [.list 1 .str, .list 2 (.struct [.int .i64, .str])], .struct [.int .i64, .str], .struct [.int .i64, .str]] rows) = some (.c (.s (.bool true))) := by
    obtain ⟨r0, q, rfl, h0, he⟩ := encRs_cons he
    obtain ⟨r1, q, rfl, h1, he⟩ := encRs_cons he
    obtain ⟨r2, q, rfl, h2, he⟩ := encRs_cons he
    obtain rfl := encRs_nil he
    obtain ⟨ss, cs, f, g, rfl⟩ := enc_dk h0
    obtain ⟨v, rfl⟩ := enc_wr h1
    obtain ⟨w, rfl⟩ := enc_wr h2
    have z := sz_field (j := 0) (off := 1) (b := 24) hz (by kernel_rfl) rfl rfl
    rw [encs_len] at z
    have hc0 : fitC cs.length := z
    have hc := hc0
    have := dApartG_eq (ss := ss) (cs := cs) (f := f) (g := g) (a1 := v.loc) (t1 := v.data) (b1 := w.loc) (u1 := w.data)
    rw [if_pos hc] at this
    exact this
set_option maxRecDepth 100000 in
theorem diskApart_step {H : Type} {enc : TypeId × Value → H} {W : World} {base : Nat} {args : Array Value} {ds gs : List (DataW H)} {before : List MemPlace} (hval : ∀ (j : Nat) t v, Try.f8.params[j]? = some t → args[j]? = some v → Value.okWide Try.prog W .any base t v)
    (hW : DataW.Whole enc Try.prog Try.f8.params.toList Rows.diskApartSpec.vars false W args.toList ds gs before) (hz : (DataW.weightsEach Try.prog (Try.f8.params.toList ++ Rows.diskApartSpec.plain.varTypes Try.prog) (ds ++ gs)).all (· ≤ reachBytes) = true) :
    Calls Try.prog 8 args W fun e W' => ∃ v, e = .returned v ∧ Rows.diskApartSpec.post enc Try.prog Try.f8 false true false false W args v W' :=
  law_stepS (P := Try.prog) (shs := [.struct [.list 1 .str, .list 2 (.struct [.int .i64, .str])], .struct [.int .i64, .str], .struct [.int .i64, .str]]) contract_law17_DiskApart prog_laid rfl diskApart_sh diskApart_rd diskApart_res prog_bool (fun ds h => by match ds, h with | [_, _, _], _ => rfl) hval hW hz (fun rows he hs => diskApart_data rows he hs)
set_option maxRecDepth 100000 in
theorem diskApart_wit (os : Os) (H : Type) (enc : TypeId × Value → H) : ∃ (w : World) (tape : Tape) (i : Input), w.os = os ∧ (w.forCall tape i).Shaped Try.checked.prog ∧ i.vars = [] ∧ Input.okWide Try.checked.prog (w.forCall tape i) .any w.heap.size 8 i ∧
    Rows.diskApartSpec.pre6 enc Try.checked.prog Try.f8 Rows.diskApartRow.domain false (w.forCall tape i).memory i.args ∧ ({ modest := false } : Assume).holds Try.checked.prog (lone (Frame.enter Try.checked.prog 8 i.args .normal) [] (w.forCall tape i)) :=
  ChangeSpec.witness6 (enc := enc) (C := Try.checked) false ⟨#[], #[.agg #[.slice none 0 0, .slice none 0 0], .agg #[.int .i64 0, .string ⟨#[]⟩], .agg #[.int .i64 0, .string ⟨#[]⟩]], []⟩ 8 (by kernel_rfl) (by kernel_rfl) (by kernel_rfl) (by kernel_rfl)
set_option maxRecDepth 100000 in
theorem diskApart_lifted (os : Os) (started : os.Started) (H : Type) (enc : TypeId × Value → H) :
    ReturnsInHanded {} Try.checked os 8 .any (Rows.diskApartSpec.pre6 enc Try.prog Try.f8 Rows.diskApartRow.domain false) (Rows.diskApartSpec.post enc Try.prog Try.f8 false true false false) :=
  returnsInHanded_of_change_sized (C := Try.checked) prog_own2 started diskApart_inits Try.func8 (diskApart_wit os H enc) (fun _ _ _ _ _ _ hval hW _ hz _ => diskApart_step hval hW hz)
set_option maxRecDepth 100000 in
theorem diskApart_holds : Rows.DiskApartSaid :=
  OpenClaim.holds_of_wide 8 Try.f8 rfl rfl rfl rfl rfl rfl rfl ⟨rfl, rfl, rfl, rfl, rfl⟩ rfl rfl rfl rfl rfl (by kernel_rfl) Try.func8 (by kernel_rfl)
    (of_decide_eq_true (by kernel_rfl)) (by unfold Func.isWrapper; first | (rw [if_pos (by decide +kernel)]; kernel_rfl) | (rw [if_neg (by decide +kernel)]; exact ⟨rfl, rfl⟩))
    (fun os started H enc _ => diskApart_lifted os started H enc)

theorem diskOne_res : Try.f9.resultTypes = #[4] := by kernel_rfl
theorem diskOne_sh : shapesOf Try.prog Try.f9.params.toList = some [.struct [.list 1 .str, .list 2 (.struct [.int .i64, .str])], .list 1 (.int .i64)] := by kernel_rfl
theorem diskOne_rd : Try.f9.params.toList.all (fun t => Try.prog.readableRec t && decide (t < Try.prog.types.size)) = true := by kernel_rfl
theorem diskOne_inits : Try.checked.prog.inits.idxOf? 9 = none := by kernel_rfl
set_option maxRecDepth 100000 in
set_option linter.unusedVariables false in
theorem diskOne_data (rows : List (List S)) (he : EncRs [.struct [.list 1 .str, .list 2 (.struct [.int .i64, .str])], .list 1 (.int .i64)] rows) (hz : SzRs Try.prog Try.f9.params.toList rows) : dOneG (argsOf [.struct [.list 1 .str, .list 2 (.struct [.int .i64, .str])], .list 1 (.int .i64)] rows) = some (.c (.s (.bool true))) := by
    obtain ⟨r0, q, rfl, h0, he⟩ := encRs_cons he
    obtain ⟨r3, q, rfl, h3, he⟩ := encRs_cons he
    obtain rfl := encRs_nil he
    obtain ⟨ss, cs, f, g, rfl⟩ := enc_dk h0
    obtain ⟨rows, h, rfl, -, g3⟩ := enc_list h3
    obtain ⟨keep, rfl⟩ := enc_rows numE fun r hr => enc_num (g3 r hr)
    have z := sz_field (j := 0) (off := 1) (b := 24) hz (by kernel_rfl) rfl rfl
    rw [encs_len] at z
    have hc0 : fitC cs.length := z
    have hc := hc0
    have := dOneG_eq (ss := ss) (cs := cs) (f := f) (g := g) (keep := keep) (h := h)
    rw [if_pos hc] at this
    exact this
set_option maxRecDepth 100000 in
theorem diskOne_step {H : Type} {enc : TypeId × Value → H} {W : World} {base : Nat} {args : Array Value} {ds gs : List (DataW H)} {before : List MemPlace} (hval : ∀ (j : Nat) t v, Try.f9.params[j]? = some t → args[j]? = some v → Value.okWide Try.prog W .any base t v)
    (hW : DataW.Whole enc Try.prog Try.f9.params.toList Rows.diskOneSpec.vars false W args.toList ds gs before) (hz : (DataW.weightsEach Try.prog (Try.f9.params.toList ++ Rows.diskOneSpec.plain.varTypes Try.prog) (ds ++ gs)).all (· ≤ reachBytes) = true) :
    Calls Try.prog 9 args W fun e W' => ∃ v, e = .returned v ∧ Rows.diskOneSpec.post enc Try.prog Try.f9 false true false false W args v W' :=
  law_stepS (P := Try.prog) (shs := [.struct [.list 1 .str, .list 2 (.struct [.int .i64, .str])], .list 1 (.int .i64)]) contract_law17_DiskOne prog_laid rfl diskOne_sh diskOne_rd diskOne_res prog_bool (fun ds h => by match ds, h with | [_, _], _ => rfl) hval hW hz (fun rows he hs => diskOne_data rows he hs)
set_option maxRecDepth 100000 in
theorem diskOne_wit (os : Os) (H : Type) (enc : TypeId × Value → H) : ∃ (w : World) (tape : Tape) (i : Input), w.os = os ∧ (w.forCall tape i).Shaped Try.checked.prog ∧ i.vars = [] ∧ Input.okWide Try.checked.prog (w.forCall tape i) .any w.heap.size 9 i ∧
    Rows.diskOneSpec.pre6 enc Try.checked.prog Try.f9 Rows.diskOneRow.domain false (w.forCall tape i).memory i.args ∧ ({ modest := false } : Assume).holds Try.checked.prog (lone (Frame.enter Try.checked.prog 9 i.args .normal) [] (w.forCall tape i)) :=
  ChangeSpec.witness6 (enc := enc) (C := Try.checked) false ⟨#[], #[.agg #[.slice none 0 0, .slice none 0 0], .slice none 0 0], []⟩ 8 (by kernel_rfl) (by kernel_rfl) (by kernel_rfl) (by kernel_rfl)
set_option maxRecDepth 100000 in
theorem diskOne_lifted (os : Os) (started : os.Started) (H : Type) (enc : TypeId × Value → H) :
    ReturnsInHanded {} Try.checked os 9 .any (Rows.diskOneSpec.pre6 enc Try.prog Try.f9 Rows.diskOneRow.domain false) (Rows.diskOneSpec.post enc Try.prog Try.f9 false true false false) :=
  returnsInHanded_of_change_sized (C := Try.checked) prog_own2 started diskOne_inits Try.func9 (diskOne_wit os H enc) (fun _ _ _ _ _ _ hval hW _ hz _ => diskOne_step hval hW hz)
set_option maxRecDepth 100000 in
theorem diskOne_holds : Rows.DiskOneSaid :=
  OpenClaim.holds_of_wide 9 Try.f9 rfl rfl rfl rfl rfl rfl rfl ⟨rfl, rfl, rfl, rfl, rfl⟩ rfl rfl rfl rfl rfl (by kernel_rfl) Try.func9 (by kernel_rfl)
    (of_decide_eq_true (by kernel_rfl)) (by unfold Func.isWrapper; first | (rw [if_pos (by decide +kernel)]; kernel_rfl) | (rw [if_neg (by decide +kernel)]; exact ⟨rfl, rfl⟩))
    (fun os started H enc _ => diskOne_lifted os started H enc)

end Go.Proofs.Ytcnemnehjpaggaa
