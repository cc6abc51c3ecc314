/- What is shown of any tree. -/
import Derived.Test.YtjjjgagmknlpmaaS6
set_option linter.all false
namespace Go.Proofs.Ytjjjgagmknlpmaa
open Go Go.Ab Go.Proofs Go.Fs
theorem there_right {t : List Ln} {i : Int} (h : rightT t = false) : thereB t i = false := by unfold thereB; rw [h]; simp
theorem part_yes {t : List Ln} {i : Int} (h : thereB t i = true) : partR t i = textT (subT t i.toNat) ∧ partE t i = 0 := by unfold partR partE; rw [h]; exact ⟨rfl, rfl⟩
theorem part_no {t : List Ln} {i : Int} (h : thereB t i = false) : partR t i = [] ∧ partE t i = 1 := by unfold partR partE; rw [h]; exact ⟨rfl, rfl⟩
theorem there_of {t : List Ln} {i : Int} (h : rightT t = true) (h0 : 0 ≤ i) (h1 : i < t.length) : thereB t i = true := by unfold thereB; rw [h, decide_eq_true h0, decide_eq_true h1]; rfl
def bytesG_enc : (List Ln) × (Bool) → List V := fun ⟨t, f⟩ => [.c (.s (.list 3 (encs lnE t) f))]
theorem bytesG_inj : ∀ x y, bytesG_enc x = bytesG_enc y → x = y := by
  rintro ⟨t, f⟩ ⟨t2, f2⟩ h
  simp only [bytesG_enc, List.cons.injEq, V.c.injEq, V.agg.injEq, C.s.injEq, S.list.injEq, S.str.injEq, S.int.injEq, S.bool.injEq, S.fn.injEq, S.cref.injEq, strE_inj, true_and, and_true, lnE_inj] at h
  simp_all
noncomputable def bytesG : List V → Option (V) := specE bytesG_enc (fun ⟨t, f⟩ => True) (fun ⟨t, f⟩ => .c (.s (.bool true)))
theorem bytesG_eq {t : List Ln} {f : Bool} [Decidable (True)] : bytesG [.c (.s (.list 3 (encs lnE t) f))] = if True then some (.c (.s (.bool true))) else none := specE_eq bytesG_inj (t, f)
theorem bytesG_call {t : List Ln} {f : Bool} {gt : Bool} {K : V → Prop} : callE bytesG [.c (.s (.list 3 (encs lnE t) f))] gt K = bindV (ifV gt (.c (.s (.bool true)))) K := callE_all (by rw [bytesG_eq]; rfl)
theorem bytesG_callo {t : List Ln} {f : Bool} {m : Nat → Option Ab.Obj} {locs : List Nat} {K : V → (Nat → Option Ab.Obj) → Prop} : callO bytesG (some [.c (.s (.list 3 (encs lnE t) f))]) m locs K = K (.c (.s (.bool true))) (sealW m locs (.c (.s (.bool true)))) := callO_all (by rw [bytesG_eq]; rfl)
attribute [go_sem] bytesG_call bytesG_callo

def sc_law04_ShowBytes : SC := .seq (.reg [⟨some 2, .mv, [.k (.c (.s (.bool false)))], none⟩]) (.seq (.seq (.reg [⟨some 6, .mv, [.t 0], none⟩,
⟨some 7, .call 9, [.t 6], none⟩,
⟨some 8, .not, [.t 7], none⟩]) (.cond (.t 8) (.seq (.reg [⟨some 9, .call 10, [], none⟩,
⟨some 2, .mv, [.t 9], none⟩]) (.ret)) (.skip))) (.seq (.reg [⟨some 11, .mv, [.t 0], none⟩,
⟨some 12, .call 11, [.t 11], none⟩,
⟨some 10, .mv, [.t 12], none⟩,
⟨some 13, .ext 0, [.t 10], none⟩,
⟨some 14, .ext 1, [.t 10], none⟩,
⟨some 3, .mv, [.t 13], none⟩,
⟨some 4, .mv, [.t 14], none⟩]) (.seq (.seq (.reg [⟨some 15, .mv, [.t 3], none⟩,
⟨some 16, .len true, [.t 15], none⟩,
⟨some 17, .mv, [.k (.c (.s (.int .i64 0)))], none⟩]) (.block 0 (.loop (.seq (.reg [⟨some 18, .bin .lss, [.t 17, .t 16], none⟩]) (.seq (.cond (.t 18) (.skip) (.exit 0)) (.seq (.block 1 (.seq (.reg [⟨some 19, .mv, [.t 17], none⟩,
⟨some 5, .mv, [.t 19], none⟩]) (.seq (.reg [⟨some 20, .mv, [.t 3], none⟩,
⟨some 21, .mv, [.t 5], none⟩,
⟨some 22, .idx, [.t 20, .t 21], none⟩,
⟨some 23, .bin .neq, [.t 22, .k (.c (.s (.int .u8 10)))], none⟩,
⟨some 24, .mv, [.t 23], none⟩,
⟨some 25, .mv, [.t 3], some (24, true)⟩,
⟨some 26, .mv, [.t 5], some (24, true)⟩,
⟨some 27, .idx, [.t 25, .t 26], some (24, true)⟩,
⟨some 28, .bin .lss, [.t 27, .k (.c (.s (.int .u8 32)))], some (24, true)⟩,
⟨some 29, .mv, [.t 28], some (24, true)⟩,
⟨some 30, .mv, [.t 3], some (29, false)⟩,
⟨some 31, .mv, [.t 5], some (29, false)⟩,
⟨some 32, .idx, [.t 30, .t 31], some (29, false)⟩,
⟨some 33, .bin .gtr, [.t 32, .k (.c (.s (.int .u8 126)))], some (29, false)⟩,
⟨some 34, .pick, [.t 29, .k (.c (.s (.bool true))), .t 33], some (24, true)⟩,
⟨some 35, .pick, [.t 24, .t 34, .k (.c (.s (.bool false)))], none⟩]) (.cond (.t 35) (.seq (.reg [⟨some 2, .mv, [.k (.c (.s (.bool false)))], none⟩]) (.ret)) (.skip))))) (.reg [⟨some 36, .bin .add, [.t 17, .k (.c (.s (.int .i64 1)))], none⟩,
⟨some 17, .mv, [.t 36], none⟩]))))))) (.seq (.reg [⟨some 37, .mv, [.t 4], none⟩,
⟨some 38, .bin .eql, [.t 37, .k (.c (.s (.int .i64 0)))], none⟩,
⟨some 39, .mv, [.t 0], none⟩,
⟨some 40, .call 13, [.t 39], none⟩,
⟨some 41, .eqB false, [.t 38, .t 40], none⟩,
⟨some 42, .mv, [.t 41], none⟩,
⟨some 43, .call 10, [], some (42, true)⟩,
⟨some 44, .pick, [.t 42, .t 43, .k (.c (.s (.bool false)))], none⟩,
⟨some 2, .mv, [.t 44], none⟩]) (.ret)))))
noncomputable def G_law04_ShowBytes : FuncId → Ab.Spec := addS (addS (addS (addS (noS) 9 (plain smallG)) 10 (plain awakeSG)) 11 (plain textG)) 13 (plain refRightG)
theorem G_law04_ShowBytes_ok : ∀ f, Contract Try.prog f (G_law04_ShowBytes f) := (addS_ok (addS_ok (addS_ok (addS_ok (noS_ok _) contract_ref03_Small) contract_law04_awake) contract_show_Text) contract_ref03_Right)
theorem G5_9 : G_law04_ShowBytes 9 = plain smallG := by simp [G_law04_ShowBytes, addS]
theorem G5_10 : G_law04_ShowBytes 10 = plain awakeSG := by simp [G_law04_ShowBytes, addS]
theorem G5_11 : G_law04_ShowBytes 11 = plain textG := by simp [G_law04_ShowBytes, addS]
theorem G5_13 : G_law04_ShowBytes 13 = plain refRightG := by simp [G_law04_ShowBytes, addS]
set_option maxHeartbeats 16000000 in
set_option maxRecDepth 1000000 in
set_option linter.unusedSimpArgs false in
set_option linter.unusedVariables false in
theorem contract_law04_ShowBytes : Contract Try.prog 5 (plain bytesG) := by
  have hb : ∃ c, Try.f5.body = some c ∧ codeOk 45 c = true ∧ cCode Try.prog c = sc_law04_ShowBytes := ⟨_, rfl, by kernel_rfl, by kernel_rfl⟩
  obtain ⟨c, hb1, hb2, hb3⟩ := hb
  refine contract_of (n := 1) G_law04_ShowBytes_ok hB hD Try.func5 hb1 (by kernel_rfl) hb2 hb3 (rs := [.tmp 2]) (by kernel_rfl) (by decide) ?_ ?_
  · intro args x h
    obtain ⟨y, hy, -⟩ := Option.map_eq_some_iff.1 h
    obtain ⟨⟨t, f⟩, rfl, -⟩ := specE_some hy
    rfl
  · intro args r hr
    obtain ⟨y, hy, rfl⟩ := Option.map_eq_some_iff.1 hr
    obtain ⟨⟨t, f⟩, rfl, hc, rfl⟩ := specE_some hy
    clear hr hy
    have hc : True := hc
    change awp _ _ (postQ _ (.v (.c (.s (.bool true))))) _
    unfold bytesG_enc sc_law04_ShowBytes
    cases ha : smallT t with
    | false => simp (maxSteps := 4000000) only [↓exT_call G5_9, ↓exT_callo G5_9, ↓exT_calloG G5_9, ↓exT_call G5_10, ↓exT_callo G5_10, ↓exT_calloG G5_10, ↓exT_call G5_11, ↓exT_callo G5_11, ↓exT_calloG G5_11, ↓exT_call G5_13, ↓exT_callo G5_13, ↓exT_calloG G5_13, ha, go_sem, Nat.reduceAdd, Nat.reduceSub, Nat.reduceMul, Nat.reduceEqDiff, Nat.reduceLeDiff, Nat.reduceLT, Nat.reduceBEq, Int.reduceLE, Int.reduceLT, Int.reduceToNat, Int.reduceNeg, Int.reduceAdd, Int.reduceSub, Int.reduceMul, ↓reduceIte]
    | true =>
    have hb : ∀ c ∈ textR t, c = 10 ∨ seenB c = true := by unfold textR; split; exact text_bytes t; simp
    have htl : (textR t).length ≤ 200000 := by
      unfold textR
      split
      · rename_i h
        obtain ⟨h1, h2⟩ := right_len h
        have := text_len (goS_sound h2)
        omega
      · simp
    generalize hS : textR t = s at *
    simp (maxSteps := 4000000) only [↓exT_call G5_9, ↓exT_callo G5_9, ↓exT_calloG G5_9, ↓exT_call G5_10, ↓exT_callo G5_10, ↓exT_calloG G5_10, ↓exT_call G5_11, ↓exT_callo G5_11, ↓exT_calloG G5_11, ↓exT_call G5_13, ↓exT_callo G5_13, ↓exT_calloG G5_13, ha, hS, go_sem, Nat.reduceAdd, Nat.reduceSub, Nat.reduceMul, Nat.reduceEqDiff, Nat.reduceLeDiff, Nat.reduceLT, Nat.reduceBEq, Int.reduceLE, Int.reduceLT, Int.reduceToNat, Int.reduceNeg, Int.reduceAdd, Int.reduceSub, Int.reduceMul, ↓reduceIte]
    refine awp_loopM (α := Nat) (fun i => [(0, .c (.s (.list 3 (encs lnE t) f))), (3, .c (.s (.str s))), (4, .c (.s (.int .i64 (textE t)))), (16, .c (.s (.int .i64 s.length))), (17, .c (.s (.int .i64 i)))]) (fun _ => []) (fun i => s.length - i) 0 (fun i => i ≤ s.length) (Nat.zero_le _) (Weak.meets ?_) ?_
    · simp (maxSteps := 4000000) only [↓exT_call G5_9, ↓exT_callo G5_9, ↓exT_calloG G5_9, ↓exT_call G5_10, ↓exT_callo G5_10, ↓exT_calloG G5_10, ↓exT_call G5_11, ↓exT_callo G5_11, ↓exT_calloG G5_11, ↓exT_call G5_13, ↓exT_callo G5_13, ↓exT_calloG G5_13, go_sem, Nat.reduceAdd, Nat.reduceSub, Nat.reduceMul, Nat.reduceEqDiff, Nat.reduceLeDiff, Nat.reduceLT, Nat.reduceBEq, Int.reduceLE, Int.reduceLT, Int.reduceToNat, Int.reduceNeg, Int.reduceAdd, Int.reduceSub, Int.reduceMul, ↓reduceIte]
      rfl
    intro x hx
    by_cases hxl : x < s.length
    case neg =>
      have hxi : ¬ (x : Int) < (s.length : Int) := by omega
      have he : (decide (textE t = 0) == rightT t) = true := by unfold textE; cases rightT t <;> decide
      simp (maxSteps := 4000000) only [↓exT_call G5_9, ↓exT_callo G5_9, ↓exT_calloG G5_9, ↓exT_call G5_10, ↓exT_callo G5_10, ↓exT_calloG G5_10, ↓exT_call G5_11, ↓exT_callo G5_11, ↓exT_calloG G5_11, ↓exT_call G5_13, ↓exT_callo G5_13, ↓exT_calloG G5_13, hxi, he, go_sem, Nat.reduceAdd, Nat.reduceSub, Nat.reduceMul, Nat.reduceEqDiff, Nat.reduceLeDiff, Nat.reduceLT, Nat.reduceBEq, Int.reduceLE, Int.reduceLT, Int.reduceToNat, Int.reduceNeg, Int.reduceAdd, Int.reduceSub, Int.reduceMul, ↓reduceIte]
    have hxi : (x : Int) < (s.length : Int) := by omega
    have hbx := hb (s.getD x 0) (by rw [List.getD_eq_getElem?_getD, List.getElem?_eq_getElem hxl]; exact List.getElem_mem hxl)
    by_cases h10 : s.getD x 0 = 10
    · simp (maxSteps := 4000000) only [↓exT_call G5_9, ↓exT_callo G5_9, ↓exT_calloG G5_9, ↓exT_call G5_10, ↓exT_callo G5_10, ↓exT_calloG G5_10, ↓exT_call G5_11, ↓exT_callo G5_11, ↓exT_calloG G5_11, ↓exT_call G5_13, ↓exT_callo G5_13, ↓exT_calloG G5_13, hxi, h10, go_sem, Nat.reduceAdd, Nat.reduceSub, Nat.reduceMul, Nat.reduceEqDiff, Nat.reduceLeDiff, Nat.reduceLT, Nat.reduceBEq, Int.reduceLE, Int.reduceLT, Int.reduceToNat, Int.reduceNeg, Int.reduceAdd, Int.reduceSub, Int.reduceMul, ↓reduceIte]
      exact ⟨by omega, x + 1, by omega, by omega, by simp⟩
    have hsn := hbx.resolve_left h10
    simp only [seenB, Bool.and_eq_true, decide_eq_true_eq] at hsn
    have q1 : ¬ s.getD x 0 < 32 := by have := UInt8.not_lt.2 hsn.1; exact this
    have q2 : ¬ 126 < s.getD x 0 := by have := UInt8.not_lt.2 hsn.2; exact this
    simp (maxSteps := 4000000) only [↓exT_call G5_9, ↓exT_callo G5_9, ↓exT_calloG G5_9, ↓exT_call G5_10, ↓exT_callo G5_10, ↓exT_calloG G5_10, ↓exT_call G5_11, ↓exT_callo G5_11, ↓exT_calloG G5_11, ↓exT_call G5_13, ↓exT_callo G5_13, ↓exT_calloG G5_13, hxi, h10, q1, q2, go_sem, Nat.reduceAdd, Nat.reduceSub, Nat.reduceMul, Nat.reduceEqDiff, Nat.reduceLeDiff, Nat.reduceLT, Nat.reduceBEq, Int.reduceLE, Int.reduceLT, Int.reduceToNat, Int.reduceNeg, Int.reduceAdd, Int.reduceSub, Int.reduceMul, ↓reduceIte]
    exact ⟨by omega, x + 1, by omega, by omega, by simp⟩

def textsG_enc : (List Ln) × (Bool) × (Int) → List V := fun ⟨t, f, i⟩ => [.c (.s (.list 3 (encs lnE t) f)), .c (.s (.int .i64 i))]
theorem textsG_inj : ∀ x y, textsG_enc x = textsG_enc y → x = y := by
  rintro ⟨t, f, i⟩ ⟨t2, f2, i2⟩ h
  simp only [textsG_enc, List.cons.injEq, V.c.injEq, V.agg.injEq, C.s.injEq, S.list.injEq, S.str.injEq, S.int.injEq, S.bool.injEq, S.fn.injEq, S.cref.injEq, strE_inj, true_and, and_true, lnE_inj] at h
  simp_all
noncomputable def textsG : List V → Option (V) := specE textsG_enc (fun ⟨t, f, i⟩ => True) (fun ⟨t, f, i⟩ => .c (.s (.bool true)))
theorem textsG_eq {t : List Ln} {f : Bool} {i : Int} [Decidable (True)] : textsG [.c (.s (.list 3 (encs lnE t) f)), .c (.s (.int .i64 i))] = if True then some (.c (.s (.bool true))) else none := specE_eq textsG_inj (t, f, i)
theorem textsG_call {t : List Ln} {f : Bool} {i : Int} {gt : Bool} {K : V → Prop} : callE textsG [.c (.s (.list 3 (encs lnE t) f)), .c (.s (.int .i64 i))] gt K = bindV (ifV gt (.c (.s (.bool true)))) K := callE_all (by rw [textsG_eq]; rfl)
theorem textsG_callo {t : List Ln} {f : Bool} {i : Int} {m : Nat → Option Ab.Obj} {locs : List Nat} {K : V → (Nat → Option Ab.Obj) → Prop} : callO textsG (some [.c (.s (.list 3 (encs lnE t) f)), .c (.s (.int .i64 i))]) m locs K = K (.c (.s (.bool true))) (sealW m locs (.c (.s (.bool true)))) := callO_all (by rw [textsG_eq]; rfl)
attribute [go_sem] textsG_call textsG_callo

def sc_law04_ShowTexts : SC := .seq (.reg [⟨some 4, .mv, [.k (.c (.s (.bool false)))], none⟩]) (.seq (.seq (.reg [⟨some 9, .mv, [.t 0], none⟩,
⟨some 10, .call 9, [.t 9], none⟩,
⟨some 11, .not, [.t 10], none⟩]) (.cond (.t 11) (.seq (.reg [⟨some 12, .call 10, [], none⟩,
⟨some 4, .mv, [.t 12], none⟩]) (.ret)) (.skip))) (.seq (.reg [⟨some 14, .mv, [.t 0], none⟩,
⟨some 15, .call 11, [.t 14], none⟩,
⟨some 13, .mv, [.t 15], none⟩,
⟨some 16, .ext 0, [.t 13], none⟩,
⟨some 17, .ext 1, [.t 13], none⟩,
⟨some 5, .mv, [.t 16], none⟩,
⟨some 6, .mv, [.t 17], none⟩]) (.seq (.reg [⟨some 19, .mv, [.t 0], none⟩,
⟨some 20, .mv, [.t 1], none⟩,
⟨some 21, .call 12, [.t 19, .t 20], none⟩,
⟨some 18, .mv, [.t 21], none⟩,
⟨some 22, .ext 0, [.t 18], none⟩,
⟨some 23, .ext 1, [.t 18], none⟩,
⟨some 7, .mv, [.t 22], none⟩,
⟨some 8, .mv, [.t 23], none⟩]) (.seq (.seq (.reg [⟨some 24, .mv, [.t 0], none⟩,
⟨some 25, .call 13, [.t 24], none⟩,
⟨some 26, .not, [.t 25], none⟩]) (.cond (.t 26) (.seq (.reg [⟨some 27, .mv, [.t 5], none⟩,
⟨some 28, .bin .eql, [.t 27, .k (.c (.s (.str [])))], none⟩,
⟨some 29, .mv, [.t 28], none⟩,
⟨some 30, .mv, [.t 6], some (29, true)⟩,
⟨some 31, .bin .eql, [.t 30, .k (.c (.s (.int .i64 1)))], some (29, true)⟩,
⟨some 32, .pick, [.t 29, .t 31, .k (.c (.s (.bool false)))], none⟩,
⟨some 33, .mv, [.t 32], none⟩,
⟨some 34, .mv, [.t 7], some (33, true)⟩,
⟨some 35, .bin .eql, [.t 34, .k (.c (.s (.str [])))], some (33, true)⟩,
⟨some 36, .pick, [.t 33, .t 35, .k (.c (.s (.bool false)))], none⟩,
⟨some 37, .mv, [.t 36], none⟩,
⟨some 38, .mv, [.t 8], some (37, true)⟩,
⟨some 39, .bin .eql, [.t 38, .k (.c (.s (.int .i64 1)))], some (37, true)⟩,
⟨some 40, .pick, [.t 37, .t 39, .k (.c (.s (.bool false)))], none⟩,
⟨some 41, .mv, [.t 40], none⟩,
⟨some 42, .call 10, [], some (41, true)⟩,
⟨some 43, .pick, [.t 41, .t 42, .k (.c (.s (.bool false)))], none⟩,
⟨some 4, .mv, [.t 43], none⟩]) (.ret)) (.skip))) (.seq (.seq (.reg [⟨some 44, .mv, [.t 5], none⟩,
⟨some 45, .mv, [.t 0], none⟩,
⟨some 46, .call 14, [.t 45], none⟩,
⟨some 47, .bin .neq, [.t 44, .t 46], none⟩,
⟨some 48, .mv, [.t 47], none⟩,
⟨some 49, .mv, [.t 6], some (48, false)⟩,
⟨some 50, .bin .neq, [.t 49, .k (.c (.s (.int .i64 0)))], some (48, false)⟩,
⟨some 51, .pick, [.t 48, .k (.c (.s (.bool true))), .t 50], none⟩]) (.cond (.t 51) (.seq (.reg [⟨some 4, .mv, [.k (.c (.s (.bool false)))], none⟩]) (.ret)) (.skip))) (.seq (.seq (.reg [⟨some 52, .mv, [.t 1], none⟩,
⟨some 53, .bin .lss, [.t 52, .k (.c (.s (.int .i64 0)))], none⟩,
⟨some 54, .mv, [.t 53], none⟩,
⟨some 55, .mv, [.t 1], some (54, false)⟩,
⟨some 56, .mv, [.t 0], some (54, false)⟩,
⟨some 57, .len false, [.t 56], some (54, false)⟩,
⟨some 58, .bin .geq, [.t 55, .t 57], some (54, false)⟩,
⟨some 59, .pick, [.t 54, .k (.c (.s (.bool true))), .t 58], none⟩]) (.cond (.t 59) (.seq (.reg [⟨some 60, .mv, [.t 7], none⟩,
⟨some 61, .bin .eql, [.t 60, .k (.c (.s (.str [])))], none⟩,
⟨some 62, .mv, [.t 61], none⟩,
⟨some 63, .mv, [.t 8], some (62, true)⟩,
⟨some 64, .bin .eql, [.t 63, .k (.c (.s (.int .i64 1)))], some (62, true)⟩,
⟨some 65, .pick, [.t 62, .t 64, .k (.c (.s (.bool false)))], none⟩,
⟨some 66, .mv, [.t 65], none⟩,
⟨some 67, .call 10, [], some (66, true)⟩,
⟨some 68, .pick, [.t 66, .t 67, .k (.c (.s (.bool false)))], none⟩,
⟨some 4, .mv, [.t 68], none⟩]) (.ret)) (.skip))) (.seq (.reg [⟨some 69, .mv, [.t 7], none⟩,
⟨some 70, .mv, [.t 0], none⟩,
⟨some 71, .mv, [.t 1], none⟩,
⟨some 72, .call 15, [.t 70, .t 71], none⟩,
⟨some 73, .call 14, [.t 72], none⟩,
⟨some 74, .bin .eql, [.t 69, .t 73], none⟩,
⟨some 75, .mv, [.t 74], none⟩,
⟨some 76, .mv, [.t 8], some (75, true)⟩,
⟨some 77, .bin .eql, [.t 76, .k (.c (.s (.int .i64 0)))], some (75, true)⟩,
⟨some 78, .pick, [.t 75, .t 77, .k (.c (.s (.bool false)))], none⟩,
⟨some 79, .mv, [.t 78], none⟩,
⟨some 80, .call 10, [], some (79, true)⟩,
⟨some 81, .pick, [.t 79, .t 80, .k (.c (.s (.bool false)))], none⟩,
⟨some 4, .mv, [.t 81], none⟩]) (.ret))))))))
noncomputable def G_law04_ShowTexts : FuncId → Ab.Spec := addS (addS (addS (addS (addS (addS (addS (noS) 9 (plain smallG)) 10 (plain awakeSG)) 11 (plain textG)) 12 (plain partG)) 13 (plain refRightG)) 14 (plain refTextG)) 15 (plain refSubG)
theorem G_law04_ShowTexts_ok : ∀ f, Contract Try.prog f (G_law04_ShowTexts f) := (addS_ok (addS_ok (addS_ok (addS_ok (addS_ok (addS_ok (addS_ok (noS_ok _) contract_ref03_Small) contract_law04_awake) contract_show_Text) contract_show_Part) contract_ref03_Right) contract_ref04_Text) contract_ref03_Sub)
theorem G3_9 : G_law04_ShowTexts 9 = plain smallG := by simp [G_law04_ShowTexts, addS]
theorem G3_10 : G_law04_ShowTexts 10 = plain awakeSG := by simp [G_law04_ShowTexts, addS]
theorem G3_11 : G_law04_ShowTexts 11 = plain textG := by simp [G_law04_ShowTexts, addS]
theorem G3_12 : G_law04_ShowTexts 12 = plain partG := by simp [G_law04_ShowTexts, addS]
theorem G3_13 : G_law04_ShowTexts 13 = plain refRightG := by simp [G_law04_ShowTexts, addS]
theorem G3_14 : G_law04_ShowTexts 14 = plain refTextG := by simp [G_law04_ShowTexts, addS]
theorem G3_15 : G_law04_ShowTexts 15 = plain refSubG := by simp [G_law04_ShowTexts, addS]
set_option maxHeartbeats 16000000 in
set_option maxRecDepth 1000000 in
set_option linter.unusedSimpArgs false in
set_option linter.unusedVariables false in
theorem contract_law04_ShowTexts : Contract Try.prog 3 (plain textsG) := by
  have hb : ∃ c, Try.f3.body = some c ∧ codeOk 82 c = true ∧ cCode Try.prog c = sc_law04_ShowTexts := ⟨_, rfl, by kernel_rfl, by kernel_rfl⟩
  obtain ⟨c, hb1, hb2, hb3⟩ := hb
  refine contract_of (n := 2) G_law04_ShowTexts_ok hB hD Try.func3 hb1 (by kernel_rfl) hb2 hb3 (rs := [.tmp 4]) (by kernel_rfl) (by decide) ?_ ?_
  · intro args x h
    obtain ⟨y, hy, -⟩ := Option.map_eq_some_iff.1 h
    obtain ⟨⟨t, f, i⟩, rfl, -⟩ := specE_some hy
    rfl
  · intro args r hr
    obtain ⟨y, hy, rfl⟩ := Option.map_eq_some_iff.1 hr
    obtain ⟨⟨t, f, i⟩, rfl, hc, rfl⟩ := specE_some hy
    clear hr hy
    have hc : True := hc
    change awp _ _ (postQ _ (.v (.c (.s (.bool true))))) _
    unfold textsG_enc sc_law04_ShowTexts
    cases ha : smallT t with
    | false => simp (maxSteps := 4000000) only [↓exT_call G3_9, ↓exT_callo G3_9, ↓exT_calloG G3_9, ↓exT_call G3_10, ↓exT_callo G3_10, ↓exT_calloG G3_10, ↓exT_call G3_11, ↓exT_callo G3_11, ↓exT_calloG G3_11, ↓exT_call G3_12, ↓exT_callo G3_12, ↓exT_calloG G3_12, ↓exT_call G3_13, ↓exT_callo G3_13, ↓exT_calloG G3_13, ↓exT_call G3_14, ↓exT_callo G3_14, ↓exT_calloG G3_14, ↓exT_call G3_15, ↓exT_callo G3_15, ↓exT_calloG G3_15, ha, go_sem, Nat.reduceAdd, Nat.reduceSub, Nat.reduceMul, Nat.reduceEqDiff, Nat.reduceLeDiff, Nat.reduceLT, Nat.reduceBEq, Int.reduceLE, Int.reduceLT, Int.reduceToNat, Int.reduceNeg, Int.reduceAdd, Int.reduceSub, Int.reduceMul, ↓reduceIte]
    | true =>
    cases hr : rightT t with
    | false =>
      obtain ⟨a1, a2⟩ := text_no hr
      obtain ⟨b1, b2⟩ := part_no (there_right (i := i) hr)
      simp (maxSteps := 4000000) only [↓exT_call G3_9, ↓exT_callo G3_9, ↓exT_calloG G3_9, ↓exT_call G3_10, ↓exT_callo G3_10, ↓exT_calloG G3_10, ↓exT_call G3_11, ↓exT_callo G3_11, ↓exT_calloG G3_11, ↓exT_call G3_12, ↓exT_callo G3_12, ↓exT_calloG G3_12, ↓exT_call G3_13, ↓exT_callo G3_13, ↓exT_calloG G3_13, ↓exT_call G3_14, ↓exT_callo G3_14, ↓exT_calloG G3_14, ↓exT_call G3_15, ↓exT_callo G3_15, ↓exT_calloG G3_15, ha, hr, a1, a2, b1, b2, go_sem, Nat.reduceAdd, Nat.reduceSub, Nat.reduceMul, Nat.reduceEqDiff, Nat.reduceLeDiff, Nat.reduceLT, Nat.reduceBEq, Int.reduceLE, Int.reduceLT, Int.reduceToNat, Int.reduceNeg, Int.reduceAdd, Int.reduceSub, Int.reduceMul, ↓reduceIte]
    | true =>
    obtain ⟨a1, a2⟩ := text_yes hr
    by_cases h0 : i < 0
    · have ht : thereB t i = false := by unfold thereB; rw [decide_eq_false (by omega)]; rfl
      obtain ⟨b1, b2⟩ := part_no ht
      simp (maxSteps := 4000000) only [↓exT_call G3_9, ↓exT_callo G3_9, ↓exT_calloG G3_9, ↓exT_call G3_10, ↓exT_callo G3_10, ↓exT_calloG G3_10, ↓exT_call G3_11, ↓exT_callo G3_11, ↓exT_calloG G3_11, ↓exT_call G3_12, ↓exT_callo G3_12, ↓exT_calloG G3_12, ↓exT_call G3_13, ↓exT_callo G3_13, ↓exT_calloG G3_13, ↓exT_call G3_14, ↓exT_callo G3_14, ↓exT_calloG G3_14, ↓exT_call G3_15, ↓exT_callo G3_15, ↓exT_calloG G3_15, ha, hr, a1, a2, b1, b2, h0, go_sem, Nat.reduceAdd, Nat.reduceSub, Nat.reduceMul, Nat.reduceEqDiff, Nat.reduceLeDiff, Nat.reduceLT, Nat.reduceBEq, Int.reduceLE, Int.reduceLT, Int.reduceToNat, Int.reduceNeg, Int.reduceAdd, Int.reduceSub, Int.reduceMul, ↓reduceIte]
    by_cases h1 : (t.length : Int) ≤ i
    · have ht : thereB t i = false := by unfold thereB; rw [decide_eq_false (by omega : ¬ i < (t.length : Int))]; simp
      obtain ⟨b1, b2⟩ := part_no ht
      simp (maxSteps := 4000000) only [↓exT_call G3_9, ↓exT_callo G3_9, ↓exT_calloG G3_9, ↓exT_call G3_10, ↓exT_callo G3_10, ↓exT_calloG G3_10, ↓exT_call G3_11, ↓exT_callo G3_11, ↓exT_calloG G3_11, ↓exT_call G3_12, ↓exT_callo G3_12, ↓exT_calloG G3_12, ↓exT_call G3_13, ↓exT_callo G3_13, ↓exT_calloG G3_13, ↓exT_call G3_14, ↓exT_callo G3_14, ↓exT_calloG G3_14, ↓exT_call G3_15, ↓exT_callo G3_15, ↓exT_calloG G3_15, ha, hr, a1, a2, b1, b2, h0, h1, go_sem, Nat.reduceAdd, Nat.reduceSub, Nat.reduceMul, Nat.reduceEqDiff, Nat.reduceLeDiff, Nat.reduceLT, Nat.reduceBEq, Int.reduceLE, Int.reduceLT, Int.reduceToNat, Int.reduceNeg, Int.reduceAdd, Int.reduceSub, Int.reduceMul, ↓reduceIte]
    have ht := there_of hr (by omega : 0 ≤ i) (by omega)
    obtain ⟨b1, b2⟩ := part_yes ht
    have hs := right_sub hr (i := i.toNat) (by omega)
    simp (maxSteps := 4000000) only [↓exT_call G3_9, ↓exT_callo G3_9, ↓exT_calloG G3_9, ↓exT_call G3_10, ↓exT_callo G3_10, ↓exT_calloG G3_10, ↓exT_call G3_11, ↓exT_callo G3_11, ↓exT_calloG G3_11, ↓exT_call G3_12, ↓exT_callo G3_12, ↓exT_calloG G3_12, ↓exT_call G3_13, ↓exT_callo G3_13, ↓exT_calloG G3_13, ↓exT_call G3_14, ↓exT_callo G3_14, ↓exT_calloG G3_14, ↓exT_call G3_15, ↓exT_callo G3_15, ↓exT_calloG G3_15, ha, hr, a1, a2, b1, b2, h0, h1, ht, hs, go_sem, Nat.reduceAdd, Nat.reduceSub, Nat.reduceMul, Nat.reduceEqDiff, Nat.reduceLeDiff, Nat.reduceLT, Nat.reduceBEq, Int.reduceLE, Int.reduceLT, Int.reduceToNat, Int.reduceNeg, Int.reduceAdd, Int.reduceSub, Int.reduceMul, ↓reduceIte]

def partsG_enc : (List Ln) × (Bool) → List V := fun ⟨t, f⟩ => [.c (.s (.list 3 (encs lnE t) f))]
theorem partsG_inj : ∀ x y, partsG_enc x = partsG_enc y → x = y := by
  rintro ⟨t, f⟩ ⟨t2, f2⟩ h
  simp only [partsG_enc, List.cons.injEq, V.c.injEq, V.agg.injEq, C.s.injEq, S.list.injEq, S.str.injEq, S.int.injEq, S.bool.injEq, S.fn.injEq, S.cref.injEq, strE_inj, true_and, and_true, lnE_inj] at h
  simp_all
noncomputable def partsG : List V → Option (V) := specE partsG_enc (fun ⟨t, f⟩ => True) (fun ⟨t, f⟩ => .c (.s (.bool true)))
theorem partsG_eq {t : List Ln} {f : Bool} [Decidable (True)] : partsG [.c (.s (.list 3 (encs lnE t) f))] = if True then some (.c (.s (.bool true))) else none := specE_eq partsG_inj (t, f)
theorem partsG_call {t : List Ln} {f : Bool} {gt : Bool} {K : V → Prop} : callE partsG [.c (.s (.list 3 (encs lnE t) f))] gt K = bindV (ifV gt (.c (.s (.bool true)))) K := callE_all (by rw [partsG_eq]; rfl)
theorem partsG_callo {t : List Ln} {f : Bool} {m : Nat → Option Ab.Obj} {locs : List Nat} {K : V → (Nat → Option Ab.Obj) → Prop} : callO partsG (some [.c (.s (.list 3 (encs lnE t) f))]) m locs K = K (.c (.s (.bool true))) (sealW m locs (.c (.s (.bool true)))) := callO_all (by rw [partsG_eq]; rfl)
attribute [go_sem] partsG_call partsG_callo

def sc_law04_ShowParts : SC := .seq (.reg [⟨some 2, .mv, [.k (.c (.s (.bool false)))], none⟩]) (.seq (.seq (.reg [⟨some 10, .mv, [.t 0], none⟩,
⟨some 11, .call 9, [.t 10], none⟩,
⟨some 12, .not, [.t 11], none⟩]) (.cond (.t 12) (.seq (.reg [⟨some 13, .call 10, [], none⟩,
⟨some 2, .mv, [.t 13], none⟩]) (.ret)) (.skip))) (.seq (.reg [⟨some 15, .mv, [.t 0], none⟩,
⟨some 16, .call 11, [.t 15], none⟩,
⟨some 14, .mv, [.t 16], none⟩,
⟨some 17, .ext 0, [.t 14], none⟩,
⟨some 18, .ext 1, [.t 14], none⟩,
⟨some 3, .mv, [.t 17], none⟩,
⟨some 4, .mv, [.t 18], none⟩]) (.seq (.seq (.reg [⟨some 19, .mv, [.t 4], none⟩,
⟨some 20, .bin .neq, [.t 19, .k (.c (.s (.int .i64 0)))], none⟩]) (.cond (.t 20) (.seq (.reg [⟨some 21, .mv, [.t 0], none⟩,
⟨some 22, .call 13, [.t 21], none⟩,
⟨some 23, .not, [.t 22], none⟩,
⟨some 24, .mv, [.t 23], none⟩,
⟨some 25, .mv, [.t 3], some (24, true)⟩,
⟨some 26, .bin .eql, [.t 25, .k (.c (.s (.str [])))], some (24, true)⟩,
⟨some 27, .pick, [.t 24, .t 26, .k (.c (.s (.bool false)))], none⟩,
⟨some 28, .mv, [.t 27], none⟩,
⟨some 29, .call 10, [], some (28, true)⟩,
⟨some 30, .pick, [.t 28, .t 29, .k (.c (.s (.bool false)))], none⟩,
⟨some 2, .mv, [.t 30], none⟩]) (.ret)) (.skip))) (.seq (.reg [⟨some 5, .mv, [.k (.c (.s (.str [])))], none⟩]) (.seq (.seq (.reg [⟨some 31, .mv, [.t 0], none⟩,
⟨some 32, .call 18, [.t 31, .k (.c (.s (.int .i64 (-1))))], none⟩,
⟨some 33, .len false, [.t 32], none⟩,
⟨some 34, .mv, [.k (.c (.s (.int .i64 0)))], none⟩]) (.block 0 (.loop (.seq (.reg [⟨some 35, .bin .lss, [.t 34, .t 33], none⟩]) (.seq (.cond (.t 35) (.skip) (.exit 0)) (.seq (.block 1 (.seq (.reg [⟨some 36, .iadr 1, [.t 32, .t 34], none⟩,
⟨some 37, .load 1 false, [.t 36], none⟩,
⟨some 7, .mv, [.t 37], none⟩]) (.seq (.reg [⟨some 39, .mv, [.t 0], none⟩,
⟨some 40, .mv, [.t 7], none⟩,
⟨some 41, .call 12, [.t 39, .t 40], none⟩,
⟨some 38, .mv, [.t 41], none⟩,
⟨some 42, .ext 0, [.t 38], none⟩,
⟨some 43, .ext 1, [.t 38], none⟩,
⟨some 8, .mv, [.t 42], none⟩,
⟨some 9, .mv, [.t 43], none⟩]) (.seq (.seq (.reg [⟨some 44, .mv, [.t 9], none⟩,
⟨some 45, .bin .neq, [.t 44, .k (.c (.s (.int .i64 0)))], none⟩]) (.cond (.t 45) (.seq (.reg [⟨some 2, .mv, [.k (.c (.s (.bool false)))], none⟩]) (.ret)) (.skip))) (.reg [⟨some 46, .mv, [.t 5], none⟩,
⟨some 47, .mv, [.t 8], none⟩,
⟨some 48, .bin .add, [.t 46, .t 47], none⟩,
⟨some 5, .mv, [.t 48], none⟩]))))) (.reg [⟨some 49, .bin .add, [.t 34, .k (.c (.s (.int .i64 1)))], none⟩,
⟨some 34, .mv, [.t 49], none⟩]))))))) (.seq (.reg [⟨some 50, .mv, [.t 5], none⟩,
⟨some 51, .mv, [.t 3], none⟩,
⟨some 52, .bin .eql, [.t 50, .t 51], none⟩,
⟨some 53, .mv, [.t 52], none⟩,
⟨some 54, .call 10, [], some (53, true)⟩,
⟨some 55, .pick, [.t 53, .t 54, .k (.c (.s (.bool false)))], none⟩,
⟨some 2, .mv, [.t 55], none⟩]) (.ret)))))))
noncomputable def G_law04_ShowParts : FuncId → Ab.Spec := addS (addS (addS (addS (addS (addS (noS) 9 (plain smallG)) 10 (plain awakeSG)) 11 (plain textG)) 13 (plain refRightG)) 18 (fresh kidsG)) 12 (plain partG)
theorem G_law04_ShowParts_ok : ∀ f, Contract Try.prog f (G_law04_ShowParts f) := (addS_ok (addS_ok (addS_ok (addS_ok (addS_ok (addS_ok (noS_ok _) contract_ref03_Small) contract_law04_awake) contract_show_Text) contract_ref03_Right) contract_tree_Kids) contract_show_Part)
theorem G8_9 : G_law04_ShowParts 9 = plain smallG := by simp [G_law04_ShowParts, addS]
theorem G8_10 : G_law04_ShowParts 10 = plain awakeSG := by simp [G_law04_ShowParts, addS]
theorem G8_11 : G_law04_ShowParts 11 = plain textG := by simp [G_law04_ShowParts, addS]
theorem G8_13 : G_law04_ShowParts 13 = plain refRightG := by simp [G_law04_ShowParts, addS]
theorem G8_18 : G_law04_ShowParts 18 = fresh kidsG := by simp [G_law04_ShowParts, addS]
theorem G8_12 : G_law04_ShowParts 12 = plain partG := by simp [G_law04_ShowParts, addS]
set_option maxHeartbeats 16000000 in
set_option maxRecDepth 1000000 in
set_option linter.unusedSimpArgs false in
set_option linter.unusedVariables false in
theorem contract_law04_ShowParts : Contract Try.prog 8 (plain partsG) := by
  have hb : ∃ c, Try.f8.body = some c ∧ codeOk 56 c = true ∧ cCode Try.prog c = sc_law04_ShowParts := ⟨_, rfl, by kernel_rfl, by kernel_rfl⟩
  obtain ⟨c, hb1, hb2, hb3⟩ := hb
  refine contract_of (n := 1) G_law04_ShowParts_ok hB hD Try.func8 hb1 (by kernel_rfl) hb2 hb3 (rs := [.tmp 2]) (by kernel_rfl) (by decide) ?_ ?_
  · intro args x h
    obtain ⟨y, hy, -⟩ := Option.map_eq_some_iff.1 h
    obtain ⟨⟨t, f⟩, rfl, -⟩ := specE_some hy
    rfl
  · intro args r hr
    obtain ⟨y, hy, rfl⟩ := Option.map_eq_some_iff.1 hr
    obtain ⟨⟨t, f⟩, rfl, hc, rfl⟩ := specE_some hy
    clear hr hy
    have hc : True := hc
    change awp _ _ (postQ _ (.v (.c (.s (.bool true))))) _
    unfold partsG_enc sc_law04_ShowParts
    cases ha : smallT t with
    | false => simp (maxSteps := 4000000) only [↓exT_call G8_9, ↓exT_callo G8_9, ↓exT_calloG G8_9, ↓exT_call G8_10, ↓exT_callo G8_10, ↓exT_calloG G8_10, ↓exT_call G8_11, ↓exT_callo G8_11, ↓exT_calloG G8_11, ↓exT_call G8_13, ↓exT_callo G8_13, ↓exT_calloG G8_13, ↓exT_callf G8_18, ↓exT_call G8_12, ↓exT_callo G8_12, ↓exT_calloG G8_12, ha, go_sem, Nat.reduceAdd, Nat.reduceSub, Nat.reduceMul, Nat.reduceEqDiff, Nat.reduceLeDiff, Nat.reduceLT, Nat.reduceBEq, Int.reduceLE, Int.reduceLT, Int.reduceToNat, Int.reduceNeg, Int.reduceAdd, Int.reduceSub, Int.reduceMul, ↓reduceIte]
    | true =>
    cases hr : rightT t with
    | false =>
      obtain ⟨a1, a2⟩ := text_no hr
      simp (maxSteps := 4000000) only [↓exT_call G8_9, ↓exT_callo G8_9, ↓exT_calloG G8_9, ↓exT_call G8_10, ↓exT_callo G8_10, ↓exT_calloG G8_10, ↓exT_call G8_11, ↓exT_callo G8_11, ↓exT_calloG G8_11, ↓exT_call G8_13, ↓exT_callo G8_13, ↓exT_calloG G8_13, ↓exT_callf G8_18, ↓exT_call G8_12, ↓exT_callo G8_12, ↓exT_calloG G8_12, i10, ha, hr, a1, a2, go_sem, Nat.reduceAdd, Nat.reduceSub, Nat.reduceMul, Nat.reduceEqDiff, Nat.reduceLeDiff, Nat.reduceLT, Nat.reduceBEq, Int.reduceLE, Int.reduceLT, Int.reduceToNat, Int.reduceNeg, Int.reduceAdd, Int.reduceSub, Int.reduceMul, ↓reduceIte]
    | true =>
    obtain ⟨a1, a2⟩ := text_yes hr
    have hk : kidsI t = kidsT t := by unfold kidsI; rw [hr]; rfl
    have hall := kids_all hr
    have hlt : ∀ i ∈ kidsT t, thereB t i = true := fun i hi => by have := kids_lt hi; exact there_of hr this.1 this.2
    have htl := text_len (goS_sound (right_len hr).2)
    have hl := (right_len hr).1
    have hkn : (kidsT t).length ≤ t.length := numsU_len _ _
    generalize hK : kidsT t = ks at *
    generalize hS : textT t = s at *
    simp (maxSteps := 4000000) only [↓exT_call G8_9, ↓exT_callo G8_9, ↓exT_calloG G8_9, ↓exT_call G8_10, ↓exT_callo G8_10, ↓exT_calloG G8_10, ↓exT_call G8_11, ↓exT_callo G8_11, ↓exT_calloG G8_11, ↓exT_call G8_13, ↓exT_callo G8_13, ↓exT_calloG G8_13, ↓exT_callf G8_18, ↓exT_call G8_12, ↓exT_callo G8_12, ↓exT_calloG G8_12, ha, hr, a1, a2, hk, go_sem, Nat.reduceAdd, Nat.reduceSub, Nat.reduceMul, Nat.reduceEqDiff, Nat.reduceLeDiff, Nat.reduceLT, Nat.reduceBEq, Int.reduceLE, Int.reduceLT, Int.reduceToNat, Int.reduceNeg, Int.reduceAdd, Int.reduceSub, Int.reduceMul, ↓reduceIte]
    refine awp_loopM (α := Nat) (fun x => [(0, .c (.s (.list 3 (encs lnE t) f))), (3, .c (.s (.str s))), (5, .c (.s (.str ((ks.take x).flatMap fun i => textT (subT t i.toNat))))), (32, .c (.own 32 ks.length)), (33, .c (.s (.int .i64 ks.length))), (34, .c (.s (.int .i64 x)))])
      (fun x => [(32, .row 1 (encs numE ks))]) (fun x => ks.length - x) 0 (fun x => x ≤ ks.length) (Nat.zero_le _) (Weak.meets ?_) ?_
    · simp (maxSteps := 4000000) only [↓exT_call G8_9, ↓exT_callo G8_9, ↓exT_calloG G8_9, ↓exT_call G8_10, ↓exT_callo G8_10, ↓exT_calloG G8_10, ↓exT_call G8_11, ↓exT_callo G8_11, ↓exT_calloG G8_11, ↓exT_call G8_13, ↓exT_callo G8_13, ↓exT_calloG G8_13, ↓exT_callf G8_18, ↓exT_call G8_12, ↓exT_callo G8_12, ↓exT_calloG G8_12, go_sem, Nat.reduceAdd, Nat.reduceSub, Nat.reduceMul, Nat.reduceEqDiff, Nat.reduceLeDiff, Nat.reduceLT, Nat.reduceBEq, Int.reduceLE, Int.reduceLT, Int.reduceToNat, Int.reduceNeg, Int.reduceAdd, Int.reduceSub, Int.reduceMul, ↓reduceIte]
      rfl
    intro x hx
    by_cases hxl : x < ks.length
    case neg =>
      have hxi : ¬ (x : Int) < (ks.length : Int) := by omega
      obtain rfl : x = ks.length := by omega
      rw [List.take_length, hall]
      simp (maxSteps := 4000000) only [↓exT_call G8_9, ↓exT_callo G8_9, ↓exT_calloG G8_9, ↓exT_call G8_10, ↓exT_callo G8_10, ↓exT_calloG G8_10, ↓exT_call G8_11, ↓exT_callo G8_11, ↓exT_calloG G8_11, ↓exT_call G8_13, ↓exT_callo G8_13, ↓exT_calloG G8_13, ↓exT_callf G8_18, ↓exT_call G8_12, ↓exT_callo G8_12, ↓exT_calloG G8_12, hxi, go_sem, Nat.reduceAdd, Nat.reduceSub, Nat.reduceMul, Nat.reduceEqDiff, Nat.reduceLeDiff, Nat.reduceLT, Nat.reduceBEq, Int.reduceLE, Int.reduceLT, Int.reduceToNat, Int.reduceNeg, Int.reduceAdd, Int.reduceSub, Int.reduceMul, ↓reduceIte]
    have hxi : (x : Int) < (ks.length : Int) := by omega
    have hth := hlt _ (mem_getD hxl)
    obtain ⟨b1, b2⟩ := part_yes hth
    have hstep : ((ks.take (x + 1)).flatMap fun i => textT (subT t i.toNat)) = ((ks.take x).flatMap fun i => textT (subT t i.toNat)) ++ textT (subT t (ks.getD x default).toNat) := by
      rw [take_getD hxl, List.flatMap_append, List.flatMap_singleton]
    have hlen : (((ks.take (x + 1)).flatMap fun i => textT (subT t i.toNat))).length ≤ s.length := by
      rw [← hall]
      conv => rhs; rw [← List.take_append_drop (x + 1) ks]
      rw [List.flatMap_append, List.length_append]; omega
    obtain ⟨L, hL⟩ : ∃ L : Bs, ((ks.take x).flatMap fun i => textT (subT t i.toNat)) = L := ⟨_, rfl⟩
    rw [hL] at hstep
    rw [hstep, List.length_append] at hlen
    rw [hL]
    simp (maxSteps := 4000000) only [↓exT_call G8_9, ↓exT_callo G8_9, ↓exT_calloG G8_9, ↓exT_call G8_10, ↓exT_callo G8_10, ↓exT_calloG G8_10, ↓exT_call G8_11, ↓exT_callo G8_11, ↓exT_calloG G8_11, ↓exT_call G8_13, ↓exT_callo G8_13, ↓exT_calloG G8_13, ↓exT_callf G8_18, ↓exT_call G8_12, ↓exT_callo G8_12, ↓exT_calloG G8_12, hxi, b1, b2, go_sem, Nat.reduceAdd, Nat.reduceSub, Nat.reduceMul, Nat.reduceEqDiff, Nat.reduceLeDiff, Nat.reduceLT, Nat.reduceBEq, Int.reduceLE, Int.reduceLT, Int.reduceToNat, Int.reduceNeg, Int.reduceAdd, Int.reduceSub, Int.reduceMul, ↓reduceIte]
    exact ⟨by omega, by omega, x + 1, by omega, by omega, by rw [hstep], by simp⟩

theorem mk_snoc {t : List Ln} {k x : Nat} {q : Int} (h : x < t.length) : (mkM t k q).take (x + 1) = (mkM t k q).take x ++ [if x = k then mkL (t.getD x default) q else t.getD x default] := by
  rw [take_getD (by rw [mkM_len]; exact h), mkM_get h]
def markedG_enc : (List Ln) × (Bool) × (Int) → List V := fun ⟨t, f, i⟩ => [.c (.s (.list 3 (encs lnE t) f)), .c (.s (.int .u8 i))]
theorem markedG_inj : ∀ x y, markedG_enc x = markedG_enc y → x = y := by
  rintro ⟨t, f, i⟩ ⟨t2, f2, i2⟩ h
  simp only [markedG_enc, List.cons.injEq, V.c.injEq, V.agg.injEq, C.s.injEq, S.list.injEq, S.str.injEq, S.int.injEq, S.bool.injEq, S.fn.injEq, S.cref.injEq, strE_inj, true_and, and_true, lnE_inj] at h
  simp_all
noncomputable def markedG : List V → Option (V) := specE markedG_enc (fun ⟨t, f, i⟩ => 0 ≤ i ∧ i < 256) (fun ⟨t, f, i⟩ => .c (.s (.bool true)))
theorem markedG_eq {t : List Ln} {f : Bool} {i : Int} [Decidable (0 ≤ i ∧ i < 256)] : markedG [.c (.s (.list 3 (encs lnE t) f)), .c (.s (.int .u8 i))] = if 0 ≤ i ∧ i < 256 then some (.c (.s (.bool true))) else none := specE_eq markedG_inj (t, f, i)
theorem markedG_call {t : List Ln} {f : Bool} {i : Int} {gt : Bool} {K : V → Prop} : callE markedG [.c (.s (.list 3 (encs lnE t) f)), .c (.s (.int .u8 i))] gt K = ((gt = true → 0 ≤ i ∧ i < 256) ∧ bindV (ifV gt (.c (.s (.bool true)))) K) := by
  have := Classical.propDecidable (0 ≤ i ∧ i < 256)
  exact callE_of markedG_eq
theorem markedG_callo {t : List Ln} {f : Bool} {i : Int} {m : Nat → Option Ab.Obj} {locs : List Nat} {K : V → (Nat → Option Ab.Obj) → Prop} : callO markedG (some [.c (.s (.list 3 (encs lnE t) f)), .c (.s (.int .u8 i))]) m locs K = ((0 ≤ i ∧ i < 256) ∧ K (.c (.s (.bool true))) (sealW m locs (.c (.s (.bool true))))) := by
  have := Classical.propDecidable (0 ≤ i ∧ i < 256)
  exact callO_of markedG_eq
attribute [go_sem] markedG_call markedG_callo

def sc_law04_ShowMarked : SC := .seq (.reg [⟨some 4, .mv, [.k (.c (.s (.bool false)))], none⟩]) (.seq (.seq (.reg [⟨some 17, .mv, [.t 0], none⟩,
⟨some 18, .call 9, [.t 17], none⟩,
⟨some 19, .not, [.t 18], none⟩,
⟨some 20, .mv, [.t 19], none⟩,
⟨some 21, .mv, [.t 0], some (20, false)⟩,
⟨some 22, .len false, [.t 21], some (20, false)⟩,
⟨some 23, .bin .eql, [.t 22, .k (.c (.s (.int .i64 0)))], some (20, false)⟩,
⟨some 24, .pick, [.t 20, .k (.c (.s (.bool true))), .t 23], none⟩,
⟨some 25, .mv, [.t 24], none⟩,
⟨some 26, .mv, [.t 0], some (25, false)⟩,
⟨some 27, .call 13, [.t 26], some (25, false)⟩,
⟨some 28, .not, [.t 27], some (25, false)⟩,
⟨some 29, .pick, [.t 25, .k (.c (.s (.bool true))), .t 28], none⟩]) (.cond (.t 29) (.seq (.reg [⟨some 30, .call 10, [], none⟩,
⟨some 4, .mv, [.t 30], none⟩]) (.ret)) (.skip))) (.seq (.reg [⟨some 31, .mv, [.t 1], none⟩,
⟨some 32, .conv .i64, [.t 31], none⟩,
⟨some 33, .mv, [.t 0], none⟩,
⟨some 34, .len false, [.t 33], none⟩,
⟨some 35, .bin .rem, [.t 32, .t 34], none⟩,
⟨some 5, .mv, [.t 35], none⟩]) (.seq (.reg [⟨some 6, .mv, [.k (.c (.s (.list 0 [] true)))], none⟩,
⟨some 7, .mv, [.k (.c (.s (.list 0 [] true)))], none⟩,
⟨some 8, .mv, [.k (.c (.s (.list 0 [] true)))], none⟩]) (.seq (.seq (.reg [⟨some 36, .mv, [.t 0], none⟩,
⟨some 37, .len false, [.t 36], none⟩,
⟨some 38, .mv, [.k (.c (.s (.int .i64 0)))], none⟩]) (.block 0 (.loop (.seq (.reg [⟨some 39, .bin .lss, [.t 38, .t 37], none⟩]) (.seq (.cond (.t 39) (.skip) (.exit 0)) (.seq (.block 1 (.seq (.reg [⟨some 40, .mv, [.t 38], none⟩,
⟨some 41, .iadr 3, [.t 36, .t 38], none⟩,
⟨some 42, .load 3 true, [.t 41], none⟩,
⟨some 10, .alloc [.int .i64 0, .str [], .int .i64 0], [], none⟩,
⟨some 9, .mv, [.t 40], none⟩,
⟨none, .store 3 true, [.t 10, .t 42], none⟩]) (.seq (.seq (.reg [⟨some 43, .mv, [.t 9], none⟩,
⟨some 44, .mv, [.t 5], none⟩,
⟨some 45, .bin .eql, [.t 43, .t 44], none⟩]) (.cond (.t 45) (.reg [⟨some 46, .fadr 2, [.t 10], none⟩,
⟨none, .store 1 false, [.t 46, .k (.c (.s (.int .i64 0)))], none⟩]) (.skip))) (.seq (.reg [⟨some 47, .mv, [.t 6], none⟩,
⟨some 48, .load 3 true, [.t 10], none⟩,
⟨some 49, .bslice 3 1 [.int .i64 0, .str [], .int .i64 0] [0], [.t 48], none⟩,
⟨some 50, .append false 3 32, [.t 47, .t 49], none⟩,
⟨some 6, .mv, [.t 50], none⟩]) (.seq (.seq (.reg [⟨some 51, .mv, [.t 9], none⟩,
⟨some 52, .mv, [.t 5], none⟩,
⟨some 53, .bin .eql, [.t 51, .t 52], none⟩]) (.cond (.t 53) (.reg [⟨some 54, .fadr 2, [.t 10], none⟩,
⟨none, .store 1 false, [.t 54, .k (.c (.s (.int .i64 1)))], none⟩]) (.skip))) (.seq (.reg [⟨some 55, .mv, [.t 7], none⟩,
⟨some 56, .load 3 true, [.t 10], none⟩,
⟨some 57, .bslice 3 1 [.int .i64 0, .str [], .int .i64 0] [0], [.t 56], none⟩,
⟨some 58, .append false 3 32, [.t 55, .t 57], none⟩,
⟨some 7, .mv, [.t 58], none⟩]) (.seq (.seq (.reg [⟨some 59, .mv, [.t 9], none⟩,
⟨some 60, .mv, [.t 5], none⟩,
⟨some 61, .bin .eql, [.t 59, .t 60], none⟩]) (.cond (.t 61) (.reg [⟨some 62, .fadr 2, [.t 10], none⟩,
⟨none, .store 1 false, [.t 62, .k (.c (.s (.int .i64 3)))], none⟩]) (.skip))) (.reg [⟨some 63, .mv, [.t 8], none⟩,
⟨some 64, .load 3 true, [.t 10], none⟩,
⟨some 65, .bslice 3 1 [.int .i64 0, .str [], .int .i64 0] [0], [.t 64], none⟩,
⟨some 66, .append false 3 32, [.t 63, .t 65], none⟩,
⟨some 8, .mv, [.t 66], none⟩])))))))) (.reg [⟨some 67, .bin .add, [.t 38, .k (.c (.s (.int .i64 1)))], none⟩,
⟨some 38, .mv, [.t 67], none⟩]))))))) (.seq (.reg [⟨some 69, .mv, [.t 6], none⟩,
⟨some 70, .call 11, [.t 69], none⟩,
⟨some 68, .mv, [.t 70], none⟩,
⟨some 71, .ext 0, [.t 68], none⟩,
⟨some 72, .ext 1, [.t 68], none⟩,
⟨some 11, .mv, [.t 71], none⟩,
⟨some 12, .mv, [.t 72], none⟩]) (.seq (.reg [⟨some 74, .mv, [.t 7], none⟩,
⟨some 75, .call 11, [.t 74], none⟩,
⟨some 73, .mv, [.t 75], none⟩,
⟨some 76, .ext 0, [.t 73], none⟩,
⟨some 77, .ext 1, [.t 73], none⟩,
⟨some 13, .mv, [.t 76], none⟩,
⟨some 14, .mv, [.t 77], none⟩]) (.seq (.reg [⟨some 79, .mv, [.t 8], none⟩,
⟨some 80, .call 11, [.t 79], none⟩,
⟨some 78, .mv, [.t 80], none⟩,
⟨some 81, .ext 0, [.t 78], none⟩,
⟨some 82, .ext 1, [.t 78], none⟩,
⟨some 15, .mv, [.t 81], none⟩,
⟨some 16, .mv, [.t 82], none⟩]) (.seq (.reg [⟨some 83, .mv, [.t 12], none⟩,
⟨some 84, .bin .eql, [.t 83, .k (.c (.s (.int .i64 0)))], none⟩,
⟨some 85, .mv, [.t 84], none⟩,
⟨some 86, .mv, [.t 14], some (85, true)⟩,
⟨some 87, .bin .eql, [.t 86, .k (.c (.s (.int .i64 0)))], some (85, true)⟩,
⟨some 88, .pick, [.t 85, .t 87, .k (.c (.s (.bool false)))], none⟩,
⟨some 89, .mv, [.t 88], none⟩,
⟨some 90, .mv, [.t 16], some (89, true)⟩,
⟨some 91, .bin .eql, [.t 90, .k (.c (.s (.int .i64 0)))], some (89, true)⟩,
⟨some 92, .pick, [.t 89, .t 91, .k (.c (.s (.bool false)))], none⟩,
⟨some 93, .mv, [.t 92], none⟩,
⟨some 94, .mv, [.t 13], some (93, true)⟩,
⟨some 95, .len true, [.t 94], some (93, true)⟩,
⟨some 96, .mv, [.t 11], some (93, true)⟩,
⟨some 97, .len true, [.t 96], some (93, true)⟩,
⟨some 98, .bin .add, [.t 97, .k (.c (.s (.int .i64 10)))], some (93, true)⟩,
⟨some 99, .bin .eql, [.t 95, .t 98], some (93, true)⟩,
⟨some 100, .pick, [.t 93, .t 99, .k (.c (.s (.bool false)))], none⟩,
⟨some 101, .mv, [.t 100], none⟩,
⟨some 102, .mv, [.t 15], some (101, true)⟩,
⟨some 103, .len true, [.t 102], some (101, true)⟩,
⟨some 104, .mv, [.t 13], some (101, true)⟩,
⟨some 105, .len true, [.t 104], some (101, true)⟩,
⟨some 106, .bin .add, [.t 105, .k (.c (.s (.int .i64 9)))], some (101, true)⟩,
⟨some 107, .bin .eql, [.t 103, .t 106], some (101, true)⟩,
⟨some 108, .pick, [.t 101, .t 107, .k (.c (.s (.bool false)))], none⟩,
⟨some 109, .mv, [.t 108], none⟩,
⟨some 110, .call 10, [], some (109, true)⟩,
⟨some 111, .pick, [.t 109, .t 110, .k (.c (.s (.bool false)))], none⟩,
⟨some 4, .mv, [.t 111], none⟩]) (.ret)))))))))
noncomputable def G_law04_ShowMarked : FuncId → Ab.Spec := addS (addS (addS (addS (noS) 9 (plain smallG)) 13 (plain refRightG)) 10 (plain awakeSG)) 11 (plain textG)
theorem G_law04_ShowMarked_ok : ∀ f, Contract Try.prog f (G_law04_ShowMarked f) := (addS_ok (addS_ok (addS_ok (addS_ok (noS_ok _) contract_ref03_Small) contract_ref03_Right) contract_law04_awake) contract_show_Text)
theorem G6_9 : G_law04_ShowMarked 9 = plain smallG := by simp [G_law04_ShowMarked, addS]
theorem G6_13 : G_law04_ShowMarked 13 = plain refRightG := by simp [G_law04_ShowMarked, addS]
theorem G6_10 : G_law04_ShowMarked 10 = plain awakeSG := by simp [G_law04_ShowMarked, addS]
theorem G6_11 : G_law04_ShowMarked 11 = plain textG := by simp [G_law04_ShowMarked, addS]
set_option maxHeartbeats 16000000 in
set_option maxRecDepth 1000000 in
set_option linter.unusedSimpArgs false in
set_option linter.unusedVariables false in
theorem contract_law04_ShowMarked : Contract Try.prog 6 (plain markedG) := by
  have hb : ∃ c, Try.f6.body = some c ∧ codeOk 112 c = true ∧ cCode Try.prog c = sc_law04_ShowMarked := ⟨_, rfl, by kernel_rfl, by kernel_rfl⟩
  obtain ⟨c, hb1, hb2, hb3⟩ := hb
  refine contract_of (n := 2) G_law04_ShowMarked_ok hB hD Try.func6 hb1 (by kernel_rfl) hb2 hb3 (rs := [.tmp 4]) (by kernel_rfl) (by decide) ?_ ?_
  · intro args x h
    obtain ⟨y, hy, -⟩ := Option.map_eq_some_iff.1 h
    obtain ⟨⟨t, f, i⟩, rfl, -⟩ := specE_some hy
    rfl
  · intro args r hr
    obtain ⟨y, hy, rfl⟩ := Option.map_eq_some_iff.1 hr
    obtain ⟨⟨t, f, i⟩, rfl, hc, rfl⟩ := specE_some hy
    clear hr hy
    have hc : 0 ≤ i ∧ i < 256 := hc
    change awp _ _ (postQ _ (.v (.c (.s (.bool true))))) _
    unfold markedG_enc sc_law04_ShowMarked
    cases ha : smallT t with
    | false => simp (maxSteps := 4000000) only [↓exT_call G6_9, ↓exT_callo G6_9, ↓exT_calloG G6_9, ↓exT_call G6_13, ↓exT_callo G6_13, ↓exT_calloG G6_13, ↓exT_call G6_10, ↓exT_callo G6_10, ↓exT_calloG G6_10, ↓exT_call G6_11, ↓exT_callo G6_11, ↓exT_calloG G6_11, ha, go_sem, Nat.reduceAdd, Nat.reduceSub, Nat.reduceMul, Nat.reduceEqDiff, Nat.reduceLeDiff, Nat.reduceLT, Nat.reduceBEq, Int.reduceLE, Int.reduceLT, Int.reduceToNat, Int.reduceNeg, Int.reduceAdd, Int.reduceSub, Int.reduceMul, ↓reduceIte]
    | true =>
    by_cases hl0 : t.length = 0
    · have hli : ((t.length : Int) = 0) = True := by rw [eq_iff_iff, iff_true]; omega
      simp (maxSteps := 4000000) only [↓exT_call G6_9, ↓exT_callo G6_9, ↓exT_calloG G6_9, ↓exT_call G6_13, ↓exT_callo G6_13, ↓exT_calloG G6_13, ↓exT_call G6_10, ↓exT_callo G6_10, ↓exT_calloG G6_10, ↓exT_call G6_11, ↓exT_callo G6_11, ↓exT_calloG G6_11, ha, hli, go_sem, Nat.reduceAdd, Nat.reduceSub, Nat.reduceMul, Nat.reduceEqDiff, Nat.reduceLeDiff, Nat.reduceLT, Nat.reduceBEq, Int.reduceLE, Int.reduceLT, Int.reduceToNat, Int.reduceNeg, Int.reduceAdd, Int.reduceSub, Int.reduceMul, ↓reduceIte]
    have hli : ((t.length : Int) = 0) = False := by rw [eq_iff_iff, iff_false]; omega
    cases hr : rightT t with
    | false => simp (maxSteps := 4000000) only [↓exT_call G6_9, ↓exT_callo G6_9, ↓exT_calloG G6_9, ↓exT_call G6_13, ↓exT_callo G6_13, ↓exT_calloG G6_13, ↓exT_call G6_10, ↓exT_callo G6_10, ↓exT_calloG G6_10, ↓exT_call G6_11, ↓exT_callo G6_11, ↓exT_calloG G6_11, ha, hr, hli, go_sem, Nat.reduceAdd, Nat.reduceSub, Nat.reduceMul, Nat.reduceEqDiff, Nat.reduceLeDiff, Nat.reduceLT, Nat.reduceBEq, Int.reduceLE, Int.reduceLT, Int.reduceToNat, Int.reduceNeg, Int.reduceAdd, Int.reduceSub, Int.reduceMul, ↓reduceIte]
    | true =>
    have hl := (right_len hr).1
    have hwr : wrapK IntKind.i64 i = i := wrap64 (by omega)
    obtain ⟨k, hk⟩ : ∃ k : Nat, i % (t.length : Int) = k := ⟨(i % (t.length : Int)).toNat, by have := Int.emod_nonneg i (b := (t.length : Int)) (by omega); omega⟩
    have hkl : k < t.length := by have := Int.emod_lt_of_pos i (b := (t.length : Int)) (by omega); omega
    have hm := mark_more hkl
    simp (maxSteps := 4000000) only [↓exT_call G6_9, ↓exT_callo G6_9, ↓exT_calloG G6_9, ↓exT_call G6_13, ↓exT_callo G6_13, ↓exT_calloG G6_13, ↓exT_call G6_10, ↓exT_callo G6_10, ↓exT_calloG G6_10, ↓exT_call G6_11, ↓exT_callo G6_11, ↓exT_calloG G6_11, ha, hr, hli, hwr, hk, go_sem, Nat.reduceAdd, Nat.reduceSub, Nat.reduceMul, Nat.reduceEqDiff, Nat.reduceLeDiff, Nat.reduceLT, Nat.reduceBEq, Int.reduceLE, Int.reduceLT, Int.reduceToNat, Int.reduceNeg, Int.reduceAdd, Int.reduceSub, Int.reduceMul, ↓reduceIte]
    refine ⟨by omega, ?_⟩
    refine awp_loopM (α := Nat) (fun x => [(5, .c (.s (.int .i64 k))), (6, .c (.own 6 x)), (7, .c (.own 7 x)), (8, .c (.own 8 x)), (36, .c (.s (.list 3 (encs lnE t) f))), (37, .c (.s (.int .i64 t.length))), (38, .c (.s (.int .i64 x)))])
      (fun x => [(6, .row 3 (encs lnE ((mkM t k 0).take x))), (7, .row 3 (encs lnE ((mkM t k 1).take x))), (8, .row 3 (encs lnE ((mkM t k 3).take x)))]) (fun x => t.length - x) 0 (fun x => x ≤ t.length) (Nat.zero_le _)
      (Weak.trans (Weak.nilSlot 6 6 3 rfl rfl) (Weak.trans (Weak.nilSlot 7 7 3 rfl rfl) (Weak.trans (Weak.nilSlot 8 8 3 rfl rfl) (Weak.meets ?_)))) ?_
    · simp (maxSteps := 4000000) only [↓exT_call G6_9, ↓exT_callo G6_9, ↓exT_calloG G6_9, ↓exT_call G6_13, ↓exT_callo G6_13, ↓exT_calloG G6_13, ↓exT_call G6_10, ↓exT_callo G6_10, ↓exT_calloG G6_10, ↓exT_call G6_11, ↓exT_callo G6_11, ↓exT_calloG G6_11, go_sem, Nat.reduceAdd, Nat.reduceSub, Nat.reduceMul, Nat.reduceEqDiff, Nat.reduceLeDiff, Nat.reduceLT, Nat.reduceBEq, Int.reduceLE, Int.reduceLT, Int.reduceToNat, Int.reduceNeg, Int.reduceAdd, Int.reduceSub, Int.reduceMul, ↓reduceIte]
      simp
    intro x hx
    by_cases hxl : x < t.length
    case neg =>
      have hxi : ¬ (x : Int) < (t.length : Int) := by omega
      obtain rfl : x = t.length := by omega
      have t0 : (mkM t k 0).take t.length = mkM t k 0 := List.take_of_length_le (by rw [mkM_len]; omega)
      have t1 : (mkM t k 1).take t.length = mkM t k 1 := List.take_of_length_le (by rw [mkM_len]; omega)
      have t2 : (mkM t k 3).take t.length = mkM t k 3 := List.take_of_length_le (by rw [mkM_len]; omega)
      obtain ⟨a1, a2⟩ := text_yes (mkM_right (k := k) (m := 0) (by omega) (by omega) hr)
      obtain ⟨b1, b2⟩ := text_yes (mkM_right (k := k) (m := 1) (by omega) (by omega) hr)
      obtain ⟨c1, c2⟩ := text_yes (mkM_right (k := k) (m := 3) (by omega) (by omega) hr)
      have l1 : (((textT (mkM t k 1)).length : Int) = ((textT (mkM t k 0)).length : Int) + 10) = True := by rw [eq_iff_iff, iff_true]; omega
      have l2 : (((textT (mkM t k 3)).length : Int) = ((textT (mkM t k 1)).length : Int) + 9) = True := by rw [eq_iff_iff, iff_true]; omega
      have htl := text_len (goS_sound (right_len (mkM_right (k := k) (m := 0) (by omega) (by omega) hr)).2)
      rw [mkM_len] at htl
      rw [t0, t1, t2]
      have n0 := mkM_len t k 0
      have n1 := mkM_len t k 1
      have n3 := mkM_len t k 3
      simp (maxSteps := 4000000) only [↓exT_call G6_9, ↓exT_callo G6_9, ↓exT_calloG G6_9, ↓exT_call G6_13, ↓exT_callo G6_13, ↓exT_calloG G6_13, ↓exT_call G6_10, ↓exT_callo G6_10, ↓exT_calloG G6_10, ↓exT_call G6_11, ↓exT_callo G6_11, ↓exT_calloG G6_11, hxi, a1, a2, b1, b2, c1, c2, n0, n1, n3, l1, l2, go_sem, Nat.reduceAdd, Nat.reduceSub, Nat.reduceMul, Nat.reduceEqDiff, Nat.reduceLeDiff, Nat.reduceLT, Nat.reduceBEq, Int.reduceLE, Int.reduceLT, Int.reduceToNat, Int.reduceNeg, Int.reduceAdd, Int.reduceSub, Int.reduceMul, ↓reduceIte]
      omega
    have hxi : (x : Int) < (t.length : Int) := by omega
    have m0 := mk_snoc (k := k) (q := 0) hxl
    have m1 := mk_snoc (k := k) (q := 1) hxl
    have m3 := mk_snoc (k := k) (q := 3) hxl
    have r0 : ((mkM t k 0).take x).length = x := by rw [List.length_take, mkM_len]; omega
    have r1 : ((mkM t k 1).take x).length = x := by rw [List.length_take, mkM_len]; omega
    have r3 : ((mkM t k 3).take x).length = x := by rw [List.length_take, mkM_len]; omega
    generalize hL : t.getD x default = l at *
    obtain ⟨d, w, q⟩ := l
    by_cases hxk : x = k
    · have hki : ((x : Int) = (k : Int)) = True := by rw [eq_iff_iff, iff_true]; omega
      rw [if_pos hxk] at m0 m1 m3
      unfold mkL at m0 m1 m3
      simp (maxSteps := 4000000) only [↓exT_call G6_9, ↓exT_callo G6_9, ↓exT_calloG G6_9, ↓exT_call G6_13, ↓exT_callo G6_13, ↓exT_calloG G6_13, ↓exT_call G6_10, ↓exT_callo G6_10, ↓exT_calloG G6_10, ↓exT_call G6_11, ↓exT_callo G6_11, ↓exT_calloG G6_11, hxi, hki, hL, r0, r1, r3, ln_snoc, go_sem, Nat.reduceAdd, Nat.reduceSub, Nat.reduceMul, Nat.reduceEqDiff, Nat.reduceLeDiff, Nat.reduceLT, Nat.reduceBEq, Int.reduceLE, Int.reduceLT, Int.reduceToNat, Int.reduceNeg, Int.reduceAdd, Int.reduceSub, Int.reduceMul, ↓reduceIte]
      exact ⟨by omega, by omega, by omega, by omega, x + 1, by omega, by omega, ⟨rfl, rfl, rfl, by simp⟩, by rw [m0], by rw [m1], by rw [m3]⟩
    · have hki : ((x : Int) = (k : Int)) = False := by rw [eq_iff_iff, iff_false]; omega
      rw [if_neg hxk] at m0 m1 m3
      simp (maxSteps := 4000000) only [↓exT_call G6_9, ↓exT_callo G6_9, ↓exT_calloG G6_9, ↓exT_call G6_13, ↓exT_callo G6_13, ↓exT_calloG G6_13, ↓exT_call G6_10, ↓exT_callo G6_10, ↓exT_calloG G6_10, ↓exT_call G6_11, ↓exT_callo G6_11, ↓exT_calloG G6_11, hxi, hki, hL, r0, r1, r3, ln_snoc, go_sem, Nat.reduceAdd, Nat.reduceSub, Nat.reduceMul, Nat.reduceEqDiff, Nat.reduceLeDiff, Nat.reduceLT, Nat.reduceBEq, Int.reduceLE, Int.reduceLT, Int.reduceToNat, Int.reduceNeg, Int.reduceAdd, Int.reduceSub, Int.reduceMul, ↓reduceIte]
      exact ⟨by omega, by omega, by omega, by omega, x + 1, by omega, by omega, ⟨rfl, rfl, rfl, by simp⟩, by rw [m0], by rw [m1], by rw [m3]⟩

end Go.Proofs.Ytjjjgagmknlpmaa
