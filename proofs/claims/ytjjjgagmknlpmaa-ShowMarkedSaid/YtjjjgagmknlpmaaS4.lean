/- The functions of package show. -/
import Derived.Test.YtjjjgagmknlpmaaS3
import Derived.Test.YtjjjgagmknlpmaaB3
import Derived.Test.YtjjjgagmknlpmaaTR3
set_option linter.all false
namespace Go.Proofs.Ytjjjgagmknlpmaa
open Go Go.Ab Go.Proofs Go.Fs
theorem rep_blanks : ∀ n : Nat, Lib.repeatL [32, 32] n = blanksB n
  | 0 => rfl
  | n + 1 => by
    rw [Lib.repeatL, rep_blanks n]
    unfold blanksB
    rw [show 2 * (n + 1) = 2 * n + 1 + 1 by omega, List.replicate_succ, List.replicate_succ]; rfl
def indentG : List V → Option V
  | [.c (.s (.int .i64 n))] => if 0 ≤ n ∧ n ≤ 1048576 then some (.c (.s (.str (blanksB n.toNat)))) else none
  | _ => none
theorem indentG_call {n : Int} {gt : Bool} {K : V → Prop} : callE indentG [.c (.s (.int .i64 n))] gt K = ((gt = true → 0 ≤ n ∧ n ≤ 1048576) ∧ bindV (ifV gt (.c (.s (.str (blanksB n.toNat))))) K) := callE_of rfl
theorem indentG_callo {n : Int} {m : Nat → Option Ab.Obj} {locs : List Nat} {K : V → (Nat → Option Ab.Obj) → Prop} : callO indentG (some [.c (.s (.int .i64 n))]) m locs K = ((0 ≤ n ∧ n ≤ 1048576) ∧ K (.c (.s (.str (blanksB n.toNat)))) (sealW m locs (.c (.s (.str (blanksB n.toNat)))))) := callO_of rfl
attribute [go_sem] indentG_call indentG_callo

def sc_show_indent : SC := .seq (.reg [⟨some 2, .mv, [.k (.c (.s (.str [])))], none⟩]) (.seq (.reg [⟨some 3, .mv, [.t 0], none⟩,
⟨some 4, .call 36, [.k (.c (.s (.str [32, 32]))), .t 3], none⟩,
⟨some 2, .mv, [.t 4], none⟩]) (.ret))
noncomputable def G_show_indent : FuncId → Ab.Spec := addS (noS) 36 (plain repG)
theorem G_show_indent_ok : ∀ f, Contract Try.prog f (G_show_indent f) := (addS_ok (noS_ok _) contract_strings_Repeat)
theorem G22_36 : G_show_indent 36 = plain repG := by simp [G_show_indent, addS]
set_option maxHeartbeats 16000000 in
set_option maxRecDepth 1000000 in
set_option linter.unusedSimpArgs false in
set_option linter.unusedVariables false in
theorem contract_show_indent : Contract Try.prog 22 (plain indentG) := by
  have hb : ∃ c, Try.f22.body = some c ∧ codeOk 5 c = true ∧ cCode Try.prog c = sc_show_indent := ⟨_, rfl, by kernel_rfl, by kernel_rfl⟩
  obtain ⟨c, hb1, hb2, hb3⟩ := hb
  refine contract_of (n := 1) G_show_indent_ok hB hD Try.func22 hb1 (by kernel_rfl) hb2 hb3 (rs := [.tmp 2]) (by kernel_rfl) (by decide) ?_ ?_
  · intro args x h
    unfold plain indentG at h
    split at h <;> simp_all
  · intro args r hr
    unfold plain indentG at hr
    split at hr
    case h_2 => cases hr
    rename_i n
    split at hr
    case isFalse => cases hr
    rename_i hc
    simp only [Option.map_some, Option.some.injEq] at hr
    subst hr
    unfold sc_show_indent
    simp (maxSteps := 4000000) only [↓exT_call G22_36, ↓exT_callo G22_36, ↓exT_calloG G22_36, hc.1, hc.2, rep_blanks, go_sem, Nat.reduceAdd, Nat.reduceSub, Nat.reduceMul, Nat.reduceEqDiff, Nat.reduceLeDiff, Nat.reduceLT, Nat.reduceBEq, Int.reduceLE, Int.reduceLT, Int.reduceToNat, Int.reduceNeg, Int.reduceAdd, Int.reduceSub, Int.reduceMul, ↓reduceIte]
    all_goals simp

def marksG : List V → Option V
  | [.c (.s (.int .i64 q))] => if 0 ≤ q ∧ q ≤ 3 then some (.c (.s (.str (marksB q)))) else none
  | _ => none
theorem marksG_call {q : Int} {gt : Bool} {K : V → Prop} : callE marksG [.c (.s (.int .i64 q))] gt K = ((gt = true → 0 ≤ q ∧ q ≤ 3) ∧ bindV (ifV gt (.c (.s (.str (marksB q))))) K) := callE_of rfl
theorem marksG_callo {q : Int} {m : Nat → Option Ab.Obj} {locs : List Nat} {K : V → (Nat → Option Ab.Obj) → Prop} : callO marksG (some [.c (.s (.int .i64 q))]) m locs K = ((0 ≤ q ∧ q ≤ 3) ∧ K (.c (.s (.str (marksB q)))) (sealW m locs (.c (.s (.str (marksB q)))))) := callO_of rfl
attribute [go_sem] marksG_call marksG_callo

def sc_show_marks : SC := .seq (.reg [⟨some 2, .mv, [.k (.c (.s (.str [])))], none⟩]) (.seq (.reg [⟨some 3, .mv, [.k (.c (.s (.str [])))], none⟩]) (.seq (.seq (.reg [⟨some 4, .mv, [.t 0], none⟩,
⟨some 5, .bin .and, [.t 4, .k (.c (.s (.int .i64 1)))], none⟩,
⟨some 6, .bin .neq, [.t 5, .k (.c (.s (.int .i64 0)))], none⟩]) (.cond (.t 6) (.reg [⟨some 7, .mv, [.t 3], none⟩,
⟨some 8, .bin .add, [.t 7, .k (.c (.s (.str [105, 110, 97, 99, 116, 105, 118, 101, 58, 32])))], none⟩,
⟨some 3, .mv, [.t 8], none⟩]) (.skip))) (.seq (.seq (.reg [⟨some 9, .mv, [.t 0], none⟩,
⟨some 10, .bin .and, [.t 9, .k (.c (.s (.int .i64 2)))], none⟩,
⟨some 11, .bin .neq, [.t 10, .k (.c (.s (.int .i64 0)))], none⟩]) (.cond (.t 11) (.reg [⟨some 12, .mv, [.t 3], none⟩,
⟨some 13, .bin .add, [.t 12, .k (.c (.s (.str [112, 114, 111, 116, 101, 99, 116, 58, 32])))], none⟩,
⟨some 3, .mv, [.t 13], none⟩]) (.skip))) (.seq (.reg [⟨some 14, .mv, [.t 3], none⟩,
⟨some 2, .mv, [.t 14], none⟩]) (.ret)))))
noncomputable def G_show_marks : FuncId → Ab.Spec := noS
theorem G_show_marks_ok : ∀ f, Contract Try.prog f (G_show_marks f) := (noS_ok _)
set_option maxHeartbeats 16000000 in
set_option maxRecDepth 1000000 in
set_option linter.unusedSimpArgs false in
set_option linter.unusedVariables false in
theorem contract_show_marks : Contract Try.prog 23 (plain marksG) := by
  have hb : ∃ c, Try.f23.body = some c ∧ codeOk 15 c = true ∧ cCode Try.prog c = sc_show_marks := ⟨_, rfl, by kernel_rfl, by kernel_rfl⟩
  obtain ⟨c, hb1, hb2, hb3⟩ := hb
  refine contract_of (n := 1) G_show_marks_ok hB hD Try.func23 hb1 (by kernel_rfl) hb2 hb3 (rs := [.tmp 2]) (by kernel_rfl) (by decide) ?_ ?_
  · intro args x h
    unfold plain marksG at h
    split at h <;> simp_all
  · intro args r hr
    unfold plain marksG at hr
    split at hr
    case h_2 => cases hr
    rename_i q
    split at hr
    case isFalse => cases hr
    rename_i hc
    simp only [Option.map_some, Option.some.injEq] at hr
    subst hr
    unfold sc_show_marks
    obtain rfl | rfl | rfl | rfl : q = 0 ∨ q = 1 ∨ q = 2 ∨ q = 3 := by omega
    all_goals (simp (maxSteps := 4000000) only [go_sem, Nat.reduceAdd, Nat.reduceSub, Nat.reduceMul, Nat.reduceEqDiff, Nat.reduceLeDiff, Nat.reduceLT, Nat.reduceBEq, Int.reduceLE, Int.reduceLT, Int.reduceToNat, Int.reduceNeg, Int.reduceAdd, Int.reduceSub, Int.reduceMul, ↓reduceIte])
    all_goals decide

def closedG : List V → Option V
  | [.c (.s (.int .i64 d)), .c (.s (.int .i64 n))] => if (0 ≤ d ∧ d ≤ 16) ∧ 0 ≤ n then some (.c (.s (.str (closedB d n)))) else none
  | _ => none
theorem closedG_call {d : Int} {n : Int} {gt : Bool} {K : V → Prop} : callE closedG [.c (.s (.int .i64 d)), .c (.s (.int .i64 n))] gt K = ((gt = true → (0 ≤ d ∧ d ≤ 16) ∧ 0 ≤ n) ∧ bindV (ifV gt (.c (.s (.str (closedB d n))))) K) := callE_of rfl
theorem closedG_callo {d : Int} {n : Int} {m : Nat → Option Ab.Obj} {locs : List Nat} {K : V → (Nat → Option Ab.Obj) → Prop} : callO closedG (some [.c (.s (.int .i64 d)), .c (.s (.int .i64 n))]) m locs K = (((0 ≤ d ∧ d ≤ 16) ∧ 0 ≤ n) ∧ K (.c (.s (.str (closedB d n)))) (sealW m locs (.c (.s (.str (closedB d n)))))) := callO_of rfl
attribute [go_sem] closedG_call closedG_callo

def sc_show_closed : SC := .seq (.reg [⟨some 4, .mv, [.k (.c (.s (.str [])))], none⟩]) (.seq (.reg [⟨some 5, .mv, [.k (.c (.s (.str [])))], none⟩]) (.seq (.seq (.reg [⟨some 7, .mv, [.t 0], none⟩,
⟨some 8, .bin .sub, [.t 7, .k (.c (.s (.int .i64 1)))], none⟩,
⟨some 6, .mv, [.t 8], none⟩]) (.block 0 (.loop (.seq (.seq (.reg [⟨some 9, .mv, [.t 6], none⟩,
⟨some 10, .mv, [.t 1], none⟩,
⟨some 11, .bin .geq, [.t 9, .t 10], none⟩]) (.cond (.t 11) (.skip) (.exit 0))) (.seq (.block 1 (.reg [⟨some 14, .mv, [.t 5], none⟩,
⟨some 15, .mv, [.t 6], none⟩,
⟨some 16, .call 22, [.t 15], none⟩,
⟨some 17, .bin .add, [.t 16, .k (.c (.s (.str [125, 10])))], none⟩,
⟨some 18, .bin .add, [.t 14, .t 17], none⟩,
⟨some 5, .mv, [.t 18], none⟩])) (.reg [⟨some 12, .mv, [.t 6], none⟩,
⟨some 13, .bin .sub, [.t 12, .k (.c (.s (.int .i64 1)))], none⟩,
⟨some 6, .mv, [.t 13], none⟩])))))) (.seq (.reg [⟨some 19, .mv, [.t 5], none⟩,
⟨some 4, .mv, [.t 19], none⟩]) (.ret))))
noncomputable def G_show_closed : FuncId → Ab.Spec := addS (noS) 22 (plain indentG)
theorem G_show_closed_ok : ∀ f, Contract Try.prog f (G_show_closed f) := (addS_ok (noS_ok _) contract_show_indent)
theorem G24_22 : G_show_closed 22 = plain indentG := by simp [G_show_closed, addS]
set_option maxHeartbeats 16000000 in
set_option maxRecDepth 1000000 in
set_option linter.unusedSimpArgs false in
set_option linter.unusedVariables false in
theorem contract_show_closed : Contract Try.prog 24 (plain closedG) := by
  have hb : ∃ c, Try.f24.body = some c ∧ codeOk 20 c = true ∧ cCode Try.prog c = sc_show_closed := ⟨_, rfl, by kernel_rfl, by kernel_rfl⟩
  obtain ⟨c, hb1, hb2, hb3⟩ := hb
  refine contract_of (n := 2) G_show_closed_ok hB hD Try.func24 hb1 (by kernel_rfl) hb2 hb3 (rs := [.tmp 4]) (by kernel_rfl) (by decide) ?_ ?_
  · intro args x h
    unfold plain closedG at h
    split at h <;> simp_all
  · intro args r hr
    unfold plain closedG at hr
    split at hr
    case h_2 => cases hr
    rename_i d n
    split at hr
    case isFalse => cases hr
    rename_i hc
    simp only [Option.map_some, Option.some.injEq] at hr
    subst hr
    unfold sc_show_closed
    obtain ⟨⟨hd0, hd1⟩, hn⟩ := hc
    simp (maxSteps := 4000000) only [↓exT_call G24_22, ↓exT_callo G24_22, ↓exT_calloG G24_22, go_sem, Nat.reduceAdd, Nat.reduceSub, Nat.reduceMul, Nat.reduceEqDiff, Nat.reduceLeDiff, Nat.reduceLT, Nat.reduceBEq, Int.reduceLE, Int.reduceLT, Int.reduceToNat, Int.reduceNeg, Int.reduceAdd, Int.reduceSub, Int.reduceMul, ↓reduceIte]
    refine ⟨by omega, ?_⟩
    by_cases hdn : n ≤ d
    case neg =>
      have hcl : closedB d n = [] := by unfold closedB; rw [show (d - n).toNat = 0 by omega]; rfl
      rw [hcl]
      refine awp_loopM (α := Unit) (fun _ => [(1, .c (.s (.int .i64 n))), (5, .c (.s (.str []))), (6, .c (.s (.int .i64 (d - 1))))]) (fun _ => []) (fun _ => 0) () (fun _ => True) trivial (Weak.meets ?_) ?_
      · simp (maxSteps := 4000000) only [↓exT_call G24_22, ↓exT_callo G24_22, ↓exT_calloG G24_22, go_sem, Nat.reduceAdd, Nat.reduceSub, Nat.reduceMul, Nat.reduceEqDiff, Nat.reduceLeDiff, Nat.reduceLT, Nat.reduceBEq, Int.reduceLE, Int.reduceLT, Int.reduceToNat, Int.reduceNeg, Int.reduceAdd, Int.reduceSub, Int.reduceMul, ↓reduceIte]
      intro x hx
      have h1 : ¬ n ≤ d - 1 := by omega
      simp (maxSteps := 4000000) only [↓exT_call G24_22, ↓exT_callo G24_22, ↓exT_calloG G24_22, h1, go_sem, Nat.reduceAdd, Nat.reduceSub, Nat.reduceMul, Nat.reduceEqDiff, Nat.reduceLeDiff, Nat.reduceLT, Nat.reduceBEq, Int.reduceLE, Int.reduceLT, Int.reduceToNat, Int.reduceNeg, Int.reduceAdd, Int.reduceSub, Int.reduceMul, ↓reduceIte]
    have hcn := closedN_len n.toNat (d - n).toNat (by omega)
    refine awp_loopM (α := Nat × Bs) (fun y => [(1, .c (.s (.int .i64 n))), (5, .c (.s (.str y.2))), (6, .c (.s (.int .i64 (n + y.1 - 1))))]) (fun _ => []) (fun y => y.1) ((d - n).toNat, []) (fun y => n + y.1 ≤ d ∧ y.2 ++ closedN n.toNat y.1 = closedB d n) ⟨by simp only; omega, rfl⟩ (Weak.meets ?_) ?_
    · simp (maxSteps := 4000000) only [↓exT_call G24_22, ↓exT_callo G24_22, ↓exT_calloG G24_22, go_sem, Nat.reduceAdd, Nat.reduceSub, Nat.reduceMul, Nat.reduceEqDiff, Nat.reduceLeDiff, Nat.reduceLT, Nat.reduceBEq, Int.reduceLE, Int.reduceLT, Int.reduceToNat, Int.reduceNeg, Int.reduceAdd, Int.reduceSub, Int.reduceMul, ↓reduceIte]
      omega
    rintro ⟨x, s⟩ ⟨hx, hs⟩
    simp only at hx hs
    cases x with
    | zero =>
      have h1 : ¬ n ≤ n + ((0 : Nat) : Int) - 1 := by omega
      rw [← hs, closedN, List.append_nil]
      simp (maxSteps := 4000000) only [↓exT_call G24_22, ↓exT_callo G24_22, ↓exT_calloG G24_22, h1, go_sem, Nat.reduceAdd, Nat.reduceSub, Nat.reduceMul, Nat.reduceEqDiff, Nat.reduceLeDiff, Nat.reduceLT, Nat.reduceBEq, Int.reduceLE, Int.reduceLT, Int.reduceToNat, Int.reduceNeg, Int.reduceAdd, Int.reduceSub, Int.reduceMul, ↓reduceIte]
    | succ x =>
      have h1 : n + ((x + 1 : Nat) : Int) - 1 = n + x := by omega
      have h2 : n ≤ n + (x : Int) := by omega
      have h3 : 0 ≤ n + (x : Int) ∧ n + (x : Int) ≤ 1048576 := by omega
      have h4 : (n + (x : Int)).toNat = n.toNat + x := by omega
      have h5 : s ++ (blanksB (n.toNat + x) ++ [125, 10]) ++ closedN n.toNat x = closedB d n := by
        rw [← hs, closedN]; simp only [List.append_assoc]
      have h6 : s.length + ((blanksB (n.toNat + x)).length + 2) ≤ 700 := by
        have : (closedB d n).length ≤ 640 := by unfold closedB; omega
        rw [← h5] at this
        simp only [List.length_append, List.length_cons, List.length_nil] at this
        omega
      simp (maxSteps := 4000000) only [↓exT_call G24_22, ↓exT_callo G24_22, ↓exT_calloG G24_22, h1, h2, h3.1, h3.2, h4, go_sem, Nat.reduceAdd, Nat.reduceSub, Nat.reduceMul, Nat.reduceEqDiff, Nat.reduceLeDiff, Nat.reduceLT, Nat.reduceBEq, Int.reduceLE, Int.reduceLT, Int.reduceToNat, Int.reduceNeg, Int.reduceAdd, Int.reduceSub, Int.reduceMul, ↓reduceIte]
      exact ⟨by omega, by omega, by omega, ⟨x, s ++ (blanksB (n.toNat + x) ++ [125, 10])⟩, ⟨by simp only; omega, h5⟩, by simp only; omega, rfl, by simp only⟩

def textR (t : List Ln) : Bs := if rightT t = true then textT t else []
def textE (t : List Ln) : Int := if rightT t = true then 0 else 1
def textG_enc : (List Ln) × (Bool) → List V := fun ⟨t, f⟩ => [.c (.s (.list 3 (encs lnE t) f))]
theorem textG_inj : ∀ x y, textG_enc x = textG_enc y → x = y := by
  rintro ⟨t, f⟩ ⟨t2, f2⟩ h
  simp only [textG_enc, List.cons.injEq, V.c.injEq, V.agg.injEq, C.s.injEq, S.list.injEq, S.str.injEq, S.int.injEq, S.bool.injEq, S.fn.injEq, S.cref.injEq, strE_inj, true_and, and_true, lnE_inj] at h
  simp_all
noncomputable def textG : List V → Option (V) := specE textG_enc (fun ⟨t, f⟩ => True) (fun ⟨t, f⟩ => .tup [.inl (.s (.str (textR t))), .inl (.s (.int .i64 (textE t)))])
theorem textG_eq {t : List Ln} {f : Bool} [Decidable (True)] : textG [.c (.s (.list 3 (encs lnE t) f))] = if True then some (.tup [.inl (.s (.str (textR t))), .inl (.s (.int .i64 (textE t)))]) else none := specE_eq textG_inj (t, f)
theorem textG_call {t : List Ln} {f : Bool} {gt : Bool} {K : V → Prop} : callE textG [.c (.s (.list 3 (encs lnE t) f))] gt K = bindV (ifV gt (.tup [.inl (.s (.str (textR t))), .inl (.s (.int .i64 (textE t)))])) K := callE_all (by rw [textG_eq]; rfl)
theorem textG_callo {t : List Ln} {f : Bool} {m : Nat → Option Ab.Obj} {locs : List Nat} {K : V → (Nat → Option Ab.Obj) → Prop} : callO textG (some [.c (.s (.list 3 (encs lnE t) f))]) m locs K = K (.tup [.inl (.s (.str (textR t))), .inl (.s (.int .i64 (textE t)))]) (sealW m locs (.tup [.inl (.s (.str (textR t))), .inl (.s (.int .i64 (textE t)))])) := callO_all (by rw [textG_eq]; rfl)
attribute [go_sem] textG_call textG_callo

def sc_show_Text : SC := .seq (.reg [⟨some 2, .mv, [.k (.c (.s (.str [])))], none⟩,
⟨some 3, .mv, [.k (.c (.s (.int .i64 0)))], none⟩]) (.seq (.seq (.reg [⟨some 10, .mv, [.t 0], none⟩,
⟨some 11, .call 19, [.t 10], none⟩,
⟨some 12, .not, [.t 11], none⟩]) (.cond (.t 12) (.seq (.reg [⟨some 2, .mv, [.k (.c (.s (.str [])))], none⟩,
⟨some 3, .mv, [.k (.c (.s (.int .i64 1)))], none⟩]) (.ret)) (.skip))) (.seq (.reg [⟨some 4, .allocB (42, 5), [], none⟩]) (.seq (.seq (.reg [⟨some 13, .mv, [.t 0], none⟩,
⟨some 14, .len false, [.t 13], none⟩,
⟨some 15, .mv, [.k (.c (.s (.int .i64 0)))], none⟩]) (.block 0 (.loop (.seq (.reg [⟨some 16, .bin .lss, [.t 15, .t 14], none⟩]) (.seq (.cond (.t 16) (.skip) (.exit 0)) (.seq (.block 1 (.seq (.reg [⟨some 17, .mv, [.t 15], none⟩,
⟨some 18, .iadr 3, [.t 13, .t 15], none⟩,
⟨some 19, .load 3 true, [.t 18], none⟩,
⟨some 6, .alloc [.int .i64 0, .str [], .int .i64 0], [], none⟩,
⟨some 5, .mv, [.t 17], none⟩,
⟨none, .store 3 true, [.t 6, .t 19], none⟩]) (.seq (.reg [⟨some 21, .fadr 1, [.t 6], none⟩,
⟨some 22, .load 1 false, [.t 21], none⟩,
⟨some 23, .call 20, [.t 22], none⟩,
⟨some 20, .mv, [.t 23], none⟩,
⟨some 24, .ext 0, [.t 20], none⟩,
⟨some 25, .ext 1, [.t 20], none⟩,
⟨some 7, .mv, [.t 24], none⟩,
⟨some 8, .mv, [.t 25], none⟩]) (.seq (.regD [⟨some 26, .fadr 0, [.t 6], none⟩,
⟨some 27, .load 1 false, [.t 26], none⟩,
⟨some 28, .call 22, [.t 27], none⟩,
⟨some 29, .fadr 2, [.t 6], none⟩,
⟨some 30, .load 1 false, [.t 29], none⟩,
⟨some 31, .call 23, [.t 30], none⟩,
⟨some 32, .bin .add, [.t 28, .t 31], none⟩,
⟨some 33, .mv, [.t 7], none⟩,
⟨some 34, .bin .add, [.t 32, .t 33], none⟩,
⟨some 35, .bldStr 21 (42, 5), [.t 4, .t 34], none⟩] [(2, 3), (2, 4)]) (.seq (.reg [⟨some 9, .mv, [.k (.c (.s (.int .i64 0)))], none⟩]) (.seq (.seq (.reg [⟨some 36, .mv, [.t 5], none⟩,
⟨some 37, .bin .add, [.t 36, .k (.c (.s (.int .i64 1)))], none⟩,
⟨some 38, .mv, [.t 0], none⟩,
⟨some 39, .len false, [.t 38], none⟩,
⟨some 40, .bin .lss, [.t 37, .t 39], none⟩]) (.cond (.t 40) (.reg [⟨some 41, .mv, [.t 0], none⟩,
⟨some 42, .mv, [.t 5], none⟩,
⟨some 43, .bin .add, [.t 42, .k (.c (.s (.int .i64 1)))], none⟩,
⟨some 44, .iadr 3, [.t 41, .t 43], none⟩,
⟨some 45, .fadr 0, [.t 44], none⟩,
⟨some 46, .load 1 false, [.t 45], none⟩,
⟨some 9, .mv, [.t 46], none⟩]) (.skip))) (.seq (.seq (.reg [⟨some 47, .mv, [.t 9], none⟩,
⟨some 48, .fadr 0, [.t 6], none⟩,
⟨some 49, .load 1 false, [.t 48], none⟩,
⟨some 50, .bin .gtr, [.t 47, .t 49], none⟩]) (.cond (.t 50) (.seq (.reg [⟨some 51, .bldStr 21 (42, 5), [.t 4, .k (.c (.s (.str [32, 123, 10])))], none⟩]) (.exit 1)) (.skip))) (.reg [⟨some 52, .fadr 0, [.t 6], none⟩,
⟨some 53, .load 1 false, [.t 52], none⟩,
⟨some 54, .mv, [.t 9], none⟩,
⟨some 55, .call 24, [.t 53, .t 54], none⟩,
⟨some 56, .bin .add, [.k (.c (.s (.str [59, 10]))), .t 55], none⟩,
⟨some 57, .bldStr 21 (42, 5), [.t 4, .t 56], none⟩])))))))) (.reg [⟨some 58, .bin .add, [.t 15, .k (.c (.s (.int .i64 1)))], none⟩,
⟨some 15, .mv, [.t 58], none⟩]))))))) (.seq (.reg [⟨some 59, .bldGet 25 (42, 5), [.t 4], none⟩,
⟨some 2, .mv, [.t 59], none⟩,
⟨some 3, .mv, [.k (.c (.s (.int .i64 0)))], none⟩]) (.ret)))))
noncomputable def G_show_Text : FuncId → Ab.Spec := addS (addS (addS (addS (addS (noS) 19 (plain rightG)) 20 (plain quoteG)) 22 (plain indentG)) 23 (plain marksG)) 24 (plain closedG)
theorem G_show_Text_ok : ∀ f, Contract Try.prog f (G_show_Text f) := (addS_ok (addS_ok (addS_ok (addS_ok (addS_ok (noS_ok _) contract_tree_Right) contract_word_Quote) contract_show_indent) contract_show_marks) contract_show_closed)
theorem G11_19 : G_show_Text 19 = plain rightG := by simp [G_show_Text, addS]
theorem G11_20 : G_show_Text 20 = plain quoteG := by simp [G_show_Text, addS]
theorem G11_22 : G_show_Text 22 = plain indentG := by simp [G_show_Text, addS]
theorem G11_23 : G_show_Text 23 = plain marksG := by simp [G_show_Text, addS]
theorem G11_24 : G_show_Text 24 = plain closedG := by simp [G_show_Text, addS]
set_option maxHeartbeats 16000000 in
set_option maxRecDepth 1000000 in
set_option linter.unusedSimpArgs false in
set_option linter.unusedVariables false in
theorem contract_show_Text : Contract Try.prog 11 (plain textG) := by
  have hb : ∃ c, Try.f11.body = some c ∧ codeOk 60 c = true ∧ cCode Try.prog c = sc_show_Text := ⟨_, rfl, by kernel_rfl, by kernel_rfl⟩
  obtain ⟨c, hb1, hb2, hb3⟩ := hb
  refine contract_of (n := 1) G_show_Text_ok hB hD Try.func11 hb1 (by kernel_rfl) hb2 hb3 (rs := [.tmp 2, .tmp 3]) (by kernel_rfl) (by decide) ?_ ?_
  · intro args x h
    obtain ⟨y, hy, -⟩ := Option.map_eq_some_iff.1 h
    obtain ⟨⟨t, f⟩, rfl, -⟩ := specE_some hy
    rfl
  · intro args r hr
    obtain ⟨y, hy, rfl⟩ := Option.map_eq_some_iff.1 hr
    obtain ⟨⟨t, f⟩, rfl, hc, rfl⟩ := specE_some hy
    clear hr hy
    have hc : True := hc
    change awp _ _ (postQ _ (.v (.tup [.inl (.s (.str (textR t))), .inl (.s (.int .i64 (textE t)))]))) _
    unfold textG_enc sc_show_Text
    cases h : rightT t with
    | false =>
      have h1 : textR t = [] := by unfold textR; rw [h]; rfl
      have h2 : textE t = 1 := by unfold textE; rw [h]; rfl
      rw [h1, h2]
      simp (maxSteps := 4000000) only [↓exT_call G11_19, ↓exT_callo G11_19, ↓exT_calloG G11_19, ↓exT_call G11_20, ↓exT_callo G11_20, ↓exT_calloG G11_20, ↓exT_call G11_22, ↓exT_callo G11_22, ↓exT_calloG G11_22, ↓exT_call G11_23, ↓exT_callo G11_23, ↓exT_calloG G11_23, ↓exT_call G11_24, ↓exT_callo G11_24, ↓exT_calloG G11_24, h, go_sem, Nat.reduceAdd, Nat.reduceSub, Nat.reduceMul, Nat.reduceEqDiff, Nat.reduceLeDiff, Nat.reduceLT, Nat.reduceBEq, Int.reduceLE, Int.reduceLT, Int.reduceToNat, Int.reduceNeg, Int.reduceAdd, Int.reduceSub, Int.reduceMul, ↓reduceIte]
    | true =>
    have h1 : textR t = textT t := by unfold textR; rw [h]; rfl
    have h2 : textE t = 0 := by unfold textE; rw [h]; rfl
    rw [h1, h2]
    obtain ⟨hl, hg⟩ := right_len h
    have hsd : ∀ l ∈ t, soundB l = true := goS_sound hg
    have htl := text_len hsd
    simp (maxSteps := 4000000) only [↓exT_call G11_19, ↓exT_callo G11_19, ↓exT_calloG G11_19, ↓exT_call G11_20, ↓exT_callo G11_20, ↓exT_calloG G11_20, ↓exT_call G11_22, ↓exT_callo G11_22, ↓exT_calloG G11_22, ↓exT_call G11_23, ↓exT_callo G11_23, ↓exT_calloG G11_23, ↓exT_call G11_24, ↓exT_callo G11_24, ↓exT_calloG G11_24, h, go_sem, Nat.reduceAdd, Nat.reduceSub, Nat.reduceMul, Nat.reduceEqDiff, Nat.reduceLeDiff, Nat.reduceLT, Nat.reduceBEq, Int.reduceLE, Int.reduceLT, Int.reduceToNat, Int.reduceNeg, Int.reduceAdd, Int.reduceSub, Int.reduceMul, ↓reduceIte]
    refine awp_loopM (α := Nat × Bs) (fun y => [(0, .c (.s (.list 3 (encs lnE t) f))), (4, .c (.ptr 4 0)), (13, .c (.s (.list 3 (encs lnE t) f))), (14, .c (.s (.int .i64 t.length))), (15, .c (.s (.int .i64 y.1)))])
      (fun y => [(4, .bld (42, 5) y.2)]) (fun y => t.length - y.1) (0, []) (fun y => y.1 ≤ t.length ∧ y.2 ++ textT (t.drop y.1) = textT t) ⟨Nat.zero_le _, rfl⟩ (Weak.meets ?_) ?_
    · simp (maxSteps := 4000000) only [↓exT_call G11_19, ↓exT_callo G11_19, ↓exT_calloG G11_19, ↓exT_call G11_20, ↓exT_callo G11_20, ↓exT_calloG G11_20, ↓exT_call G11_22, ↓exT_callo G11_22, ↓exT_calloG G11_22, ↓exT_call G11_23, ↓exT_callo G11_23, ↓exT_calloG G11_23, ↓exT_call G11_24, ↓exT_callo G11_24, ↓exT_calloG G11_24, go_sem, Nat.reduceAdd, Nat.reduceSub, Nat.reduceMul, Nat.reduceEqDiff, Nat.reduceLeDiff, Nat.reduceLT, Nat.reduceBEq, Int.reduceLE, Int.reduceLT, Int.reduceToNat, Int.reduceNeg, Int.reduceAdd, Int.reduceSub, Int.reduceMul, ↓reduceIte]
      rfl
    rintro ⟨x, s⟩ ⟨hx, hs⟩
    simp only at hx hs
    by_cases hxl : x < t.length
    case neg =>
      have hxi : ¬ (x : Int) < (t.length : Int) := by omega
      obtain rfl : x = t.length := by omega
      rw [List.drop_length, textT, List.append_nil] at hs
      rw [hs]
      simp (maxSteps := 4000000) only [↓exT_call G11_19, ↓exT_callo G11_19, ↓exT_calloG G11_19, ↓exT_call G11_20, ↓exT_callo G11_20, ↓exT_calloG G11_20, ↓exT_call G11_22, ↓exT_callo G11_22, ↓exT_calloG G11_22, ↓exT_call G11_23, ↓exT_callo G11_23, ↓exT_calloG G11_23, ↓exT_call G11_24, ↓exT_callo G11_24, ↓exT_calloG G11_24, hxi, go_sem, Nat.reduceAdd, Nat.reduceSub, Nat.reduceMul, Nat.reduceEqDiff, Nat.reduceLeDiff, Nat.reduceLT, Nat.reduceBEq, Int.reduceLE, Int.reduceLT, Int.reduceToNat, Int.reduceNeg, Int.reduceAdd, Int.reduceSub, Int.reduceMul, ↓reduceIte]
      omega
    have hxi : (x : Int) < (t.length : Int) := by omega
    have hso := (sound_iff _).1 (hsd _ (mem_getD hxl))
    have hle := line_len (hsd _ (mem_getD hxl))
    have hpt := text_drop hxl
    have hnd := nextD_drop (t := t) (i := x + 1)
    have hnn : 0 ≤ nextD (t.drop (x + 1)) := nextD_nonneg fun l hl => hsd l (List.mem_of_mem_drop hl)
    have hel := end_len hso.1 hnn
    have hsl : s.length ≤ (textT t).length := by rw [← hs, List.length_append]; omega
    generalize hN : nextD (t.drop (x + 1)) = N at *
    generalize hL : t.getD x default = l at *
    obtain ⟨d, w, m⟩ := l
    simp only at hso hel hpt
    have hw : ¬ 40 < w.length := by omega
    have hlb : blanksB d.toNat ++ marksB m ++ quoteT w = lineB ⟨d, w, m⟩ := rfl
    have hln := congrArg List.length hlb
    simp only [List.length_append] at hln
    have hn : (s ++ lineB ⟨d, w, m⟩ ++ endB d N) ++ textT (t.drop (x + 1)) = textT t := by rw [← hs, hpt]; simp only [List.append_assoc]
    have s1 := hso.1.1
    have s2 : d ≤ 1048576 := by omega
    have s3 := hso.2.2.1
    have s4 := hso.2.2.2
    have s5 : d ≤ 16 := by omega
    by_cases h6 : x + 1 < t.length
    · rw [if_pos h6] at hnd
      have hx1 : (x : Int) + 1 < (t.length : Int) := by omega
      have hx0 : (0 : Int) ≤ (x : Int) + 1 := by omega
      have hxn : ((x : Int) + 1).toNat = x + 1 := by omega
      have hx2 : ((x + 1 : Nat) : Int) < (t.length : Int) := by omega
      by_cases h7 : d < N
      · have he : endB d N = [32, 123, 10] := if_pos h7
        simp (maxSteps := 4000000) only [↓exT_call G11_19, ↓exT_callo G11_19, ↓exT_calloG G11_19, ↓exT_call G11_20, ↓exT_callo G11_20, ↓exT_calloG G11_20, ↓exT_call G11_22, ↓exT_callo G11_22, ↓exT_calloG G11_22, ↓exT_call G11_23, ↓exT_callo G11_23, ↓exT_calloG G11_23, ↓exT_call G11_24, ↓exT_callo G11_24, ↓exT_calloG G11_24, hxi, hL, hw, hlb, s1, s2, s3, s4, s5, hx1, hx0, hxn, hx2, hnd.symm, h7, go_sem, Nat.reduceAdd, Nat.reduceSub, Nat.reduceMul, Nat.reduceEqDiff, Nat.reduceLeDiff, Nat.reduceLT, Nat.reduceBEq, Int.reduceLE, Int.reduceLT, Int.reduceToNat, Int.reduceNeg, Int.reduceAdd, Int.reduceSub, Int.reduceMul, ↓reduceIte]
        rw [he] at hel hn
        simp only [List.length_cons, List.length_nil] at hel
        exact ⟨by omega, by omega, by omega, by omega, by omega, by omega, by omega, ⟨x + 1, s ++ lineB ⟨d, w, m⟩ ++ [32, 123, 10]⟩, ⟨by simp only; omega, hn⟩, by simp only; omega, by simp, rfl⟩
      · have he : endB d N = 59 :: 10 :: closedB d N := if_neg h7
        simp (maxSteps := 4000000) only [↓exT_call G11_19, ↓exT_callo G11_19, ↓exT_calloG G11_19, ↓exT_call G11_20, ↓exT_callo G11_20, ↓exT_calloG G11_20, ↓exT_call G11_22, ↓exT_callo G11_22, ↓exT_calloG G11_22, ↓exT_call G11_23, ↓exT_callo G11_23, ↓exT_calloG G11_23, ↓exT_call G11_24, ↓exT_callo G11_24, ↓exT_calloG G11_24, hxi, hL, hw, hlb, s1, s2, s3, s4, s5, hx1, hx0, hxn, hx2, hnd.symm, h7, hnn, go_sem, Nat.reduceAdd, Nat.reduceSub, Nat.reduceMul, Nat.reduceEqDiff, Nat.reduceLeDiff, Nat.reduceLT, Nat.reduceBEq, Int.reduceLE, Int.reduceLT, Int.reduceToNat, Int.reduceNeg, Int.reduceAdd, Int.reduceSub, Int.reduceMul, ↓reduceIte]
        rw [he] at hel hn
        simp only [List.length_cons, List.length_nil] at hel
        exact ⟨by omega, by omega, by omega, by omega, by omega, by omega, by omega, by omega, ⟨x + 1, s ++ lineB ⟨d, w, m⟩ ++ 59 :: 10 :: closedB d N⟩, ⟨by simp only; omega, hn⟩, by simp only; omega, by simp, rfl⟩
    · rw [if_neg h6] at hnd
      have hx1 : ¬ (x : Int) + 1 < (t.length : Int) := by omega
      subst hnd
      have h7 : ¬ d < 0 := by omega
      have he : endB d 0 = 59 :: 10 :: closedB d 0 := if_neg h7
      simp (maxSteps := 4000000) only [↓exT_call G11_19, ↓exT_callo G11_19, ↓exT_calloG G11_19, ↓exT_call G11_20, ↓exT_callo G11_20, ↓exT_calloG G11_20, ↓exT_call G11_22, ↓exT_callo G11_22, ↓exT_calloG G11_22, ↓exT_call G11_23, ↓exT_callo G11_23, ↓exT_calloG G11_23, ↓exT_call G11_24, ↓exT_callo G11_24, ↓exT_calloG G11_24, hxi, hL, hw, hlb, s1, s2, s3, s4, s5, hx1, h7, go_sem, Nat.reduceAdd, Nat.reduceSub, Nat.reduceMul, Nat.reduceEqDiff, Nat.reduceLeDiff, Nat.reduceLT, Nat.reduceBEq, Int.reduceLE, Int.reduceLT, Int.reduceToNat, Int.reduceNeg, Int.reduceAdd, Int.reduceSub, Int.reduceMul, ↓reduceIte]
      rw [he] at hel hn
      simp only [List.length_cons, List.length_nil] at hel
      exact ⟨by omega, by omega, by omega, by omega, by omega, by omega, by omega, ⟨x + 1, s ++ lineB ⟨d, w, m⟩ ++ 59 :: 10 :: closedB d 0⟩, ⟨by simp only; omega, hn⟩, by simp only; omega, by simp, rfl⟩

def partR (t : List Ln) (i : Int) : Bs := if thereB t i = true then textT (subT t i.toNat) else []
def partE (t : List Ln) (i : Int) : Int := if thereB t i = true then 0 else 1
def partG_enc : (List Ln) × (Bool) × (Int) → List V := fun ⟨t, f, i⟩ => [.c (.s (.list 3 (encs lnE t) f)), .c (.s (.int .i64 i))]
theorem partG_inj : ∀ x y, partG_enc x = partG_enc y → x = y := by
  rintro ⟨t, f, i⟩ ⟨t2, f2, i2⟩ h
  simp only [partG_enc, List.cons.injEq, V.c.injEq, V.agg.injEq, C.s.injEq, S.list.injEq, S.str.injEq, S.int.injEq, S.bool.injEq, S.fn.injEq, S.cref.injEq, strE_inj, true_and, and_true, lnE_inj] at h
  simp_all
noncomputable def partG : List V → Option (V) := specE partG_enc (fun ⟨t, f, i⟩ => True) (fun ⟨t, f, i⟩ => .tup [.inl (.s (.str (partR t i))), .inl (.s (.int .i64 (partE t i)))])
theorem partG_eq {t : List Ln} {f : Bool} {i : Int} [Decidable (True)] : partG [.c (.s (.list 3 (encs lnE t) f)), .c (.s (.int .i64 i))] = if True then some (.tup [.inl (.s (.str (partR t i))), .inl (.s (.int .i64 (partE t i)))]) else none := specE_eq partG_inj (t, f, i)
theorem partG_call {t : List Ln} {f : Bool} {i : Int} {gt : Bool} {K : V → Prop} : callE partG [.c (.s (.list 3 (encs lnE t) f)), .c (.s (.int .i64 i))] gt K = bindV (ifV gt (.tup [.inl (.s (.str (partR t i))), .inl (.s (.int .i64 (partE t i)))])) K := callE_all (by rw [partG_eq]; rfl)
theorem partG_callo {t : List Ln} {f : Bool} {i : Int} {m : Nat → Option Ab.Obj} {locs : List Nat} {K : V → (Nat → Option Ab.Obj) → Prop} : callO partG (some [.c (.s (.list 3 (encs lnE t) f)), .c (.s (.int .i64 i))]) m locs K = K (.tup [.inl (.s (.str (partR t i))), .inl (.s (.int .i64 (partE t i)))]) (sealW m locs (.tup [.inl (.s (.str (partR t i))), .inl (.s (.int .i64 (partE t i)))])) := callO_all (by rw [partG_eq]; rfl)
attribute [go_sem] partG_call partG_callo

def sc_show_Part : SC := .seq (.reg [⟨some 4, .mv, [.k (.c (.s (.str [])))], none⟩,
⟨some 5, .mv, [.k (.c (.s (.int .i64 0)))], none⟩]) (.seq (.seq (.reg [⟨some 6, .mv, [.t 0], none⟩,
⟨some 7, .call 19, [.t 6], none⟩,
⟨some 8, .not, [.t 7], none⟩,
⟨some 9, .mv, [.t 8], none⟩,
⟨some 10, .mv, [.t 1], some (9, false)⟩,
⟨some 11, .bin .lss, [.t 10, .k (.c (.s (.int .i64 0)))], some (9, false)⟩,
⟨some 12, .pick, [.t 9, .k (.c (.s (.bool true))), .t 11], none⟩,
⟨some 13, .mv, [.t 12], none⟩,
⟨some 14, .mv, [.t 1], some (13, false)⟩,
⟨some 15, .mv, [.t 0], some (13, false)⟩,
⟨some 16, .len false, [.t 15], some (13, false)⟩,
⟨some 17, .bin .geq, [.t 14, .t 16], some (13, false)⟩,
⟨some 18, .pick, [.t 13, .k (.c (.s (.bool true))), .t 17], none⟩]) (.cond (.t 18) (.seq (.reg [⟨some 4, .mv, [.k (.c (.s (.str [])))], none⟩,
⟨some 5, .mv, [.k (.c (.s (.int .i64 1)))], none⟩]) (.ret)) (.skip))) (.seq (.reg [⟨some 19, .mv, [.t 0], none⟩,
⟨some 20, .mv, [.t 1], none⟩,
⟨some 21, .call 26, [.t 19, .t 20], none⟩,
⟨some 22, .call 11, [.t 21], none⟩,
⟨some 23, .ext 0, [.t 22], none⟩,
⟨some 24, .ext 1, [.t 22], none⟩,
⟨some 4, .mv, [.t 23], none⟩,
⟨some 5, .mv, [.t 24], none⟩]) (.ret)))
noncomputable def G_show_Part : FuncId → Ab.Spec := addS (addS (addS (noS) 19 (plain rightG)) 26 (fresh subG)) 11 (plain textG)
theorem G_show_Part_ok : ∀ f, Contract Try.prog f (G_show_Part f) := (addS_ok (addS_ok (addS_ok (noS_ok _) contract_tree_Right) contract_tree_Sub) contract_show_Text)
theorem G12_19 : G_show_Part 19 = plain rightG := by simp [G_show_Part, addS]
theorem G12_26 : G_show_Part 26 = fresh subG := by simp [G_show_Part, addS]
theorem G12_11 : G_show_Part 11 = plain textG := by simp [G_show_Part, addS]
set_option maxHeartbeats 16000000 in
set_option maxRecDepth 1000000 in
set_option linter.unusedSimpArgs false in
set_option linter.unusedVariables false in
theorem contract_show_Part : Contract Try.prog 12 (plain partG) := by
  have hb : ∃ c, Try.f12.body = some c ∧ codeOk 25 c = true ∧ cCode Try.prog c = sc_show_Part := ⟨_, rfl, by kernel_rfl, by kernel_rfl⟩
  obtain ⟨c, hb1, hb2, hb3⟩ := hb
  refine contract_of (n := 2) G_show_Part_ok hB hD Try.func12 hb1 (by kernel_rfl) hb2 hb3 (rs := [.tmp 4, .tmp 5]) (by kernel_rfl) (by decide) ?_ ?_
  · intro args x h
    obtain ⟨y, hy, -⟩ := Option.map_eq_some_iff.1 h
    obtain ⟨⟨t, f, i⟩, rfl, -⟩ := specE_some hy
    rfl
  · intro args r hr
    obtain ⟨y, hy, rfl⟩ := Option.map_eq_some_iff.1 hr
    obtain ⟨⟨t, f, i⟩, rfl, hc, rfl⟩ := specE_some hy
    clear hr hy
    have hc : True := hc
    change awp _ _ (postQ _ (.v (.tup [.inl (.s (.str (partR t i))), .inl (.s (.int .i64 (partE t i)))]))) _
    unfold partG_enc sc_show_Part
    cases h : thereB t i with
    | false =>
      have h1 : partR t i = [] := by unfold partR; rw [h]; rfl
      have h2 : partE t i = 1 := by unfold partE; rw [h]; rfl
      rw [h1, h2]
      cases hr : rightT t with
      | false => simp (maxSteps := 4000000) only [↓exT_call G12_19, ↓exT_callo G12_19, ↓exT_calloG G12_19, ↓exT_callf G12_26, ↓exT_call G12_11, ↓exT_callo G12_11, ↓exT_calloG G12_11, hr, go_sem, Nat.reduceAdd, Nat.reduceSub, Nat.reduceMul, Nat.reduceEqDiff, Nat.reduceLeDiff, Nat.reduceLT, Nat.reduceBEq, Int.reduceLE, Int.reduceLT, Int.reduceToNat, Int.reduceNeg, Int.reduceAdd, Int.reduceSub, Int.reduceMul, ↓reduceIte]
      | true =>
        by_cases h3 : i < 0
        · simp (maxSteps := 4000000) only [↓exT_call G12_19, ↓exT_callo G12_19, ↓exT_calloG G12_19, ↓exT_callf G12_26, ↓exT_call G12_11, ↓exT_callo G12_11, ↓exT_calloG G12_11, hr, h3, go_sem, Nat.reduceAdd, Nat.reduceSub, Nat.reduceMul, Nat.reduceEqDiff, Nat.reduceLeDiff, Nat.reduceLT, Nat.reduceBEq, Int.reduceLE, Int.reduceLT, Int.reduceToNat, Int.reduceNeg, Int.reduceAdd, Int.reduceSub, Int.reduceMul, ↓reduceIte]
        · have h4 : (t.length : Int) ≤ i := by
            unfold thereB at h
            rw [hr, decide_eq_true (by omega : 0 ≤ i)] at h
            simp only [Bool.true_and, Bool.and_true, decide_eq_false_iff_not] at h
            omega
          simp (maxSteps := 4000000) only [↓exT_call G12_19, ↓exT_callo G12_19, ↓exT_calloG G12_19, ↓exT_callf G12_26, ↓exT_call G12_11, ↓exT_callo G12_11, ↓exT_calloG G12_11, hr, h3, h4, go_sem, Nat.reduceAdd, Nat.reduceSub, Nat.reduceMul, Nat.reduceEqDiff, Nat.reduceLeDiff, Nat.reduceLT, Nat.reduceBEq, Int.reduceLE, Int.reduceLT, Int.reduceToNat, Int.reduceNeg, Int.reduceAdd, Int.reduceSub, Int.reduceMul, ↓reduceIte]
    | true =>
    obtain ⟨k, rfl, hk, hr, hl⟩ := there_nat h
    have h1 : partR t k = textR (subI t k) := by unfold partR subI textR; rw [h, if_pos rfl, if_pos rfl, Int.toNat_natCast, right_sub hr hk]; rfl
    have h2 : partE t k = textE (subI t k) := by unfold partE subI textE; rw [h, if_pos rfl, if_pos rfl, Int.toNat_natCast, right_sub hr hk]; rfl
    rw [h1, h2]
    have h3 : ¬ (k : Int) < 0 := by omega
    have h4 : ¬ (t.length : Int) ≤ (k : Int) := by omega
    simp (maxSteps := 4000000) only [↓exT_call G12_19, ↓exT_callo G12_19, ↓exT_calloG G12_19, ↓exT_callf G12_26, ↓exT_call G12_11, ↓exT_callo G12_11, ↓exT_calloG G12_11, hr, h3, h4, go_sem, Nat.reduceAdd, Nat.reduceSub, Nat.reduceMul, Nat.reduceEqDiff, Nat.reduceLeDiff, Nat.reduceLT, Nat.reduceBEq, Int.reduceLE, Int.reduceLT, Int.reduceToNat, Int.reduceNeg, Int.reduceAdd, Int.reduceSub, Int.reduceMul, ↓reduceIte]

end Go.Proofs.Ytjjjgagmknlpmaa
