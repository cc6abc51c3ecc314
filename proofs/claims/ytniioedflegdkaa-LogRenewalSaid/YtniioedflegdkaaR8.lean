/- The statements on the log, as functions: LogExact, LogRenewal. -/
import Derived.Test.YtniioedflegdkaaRA
set_option linter.all false
namespace Go.Proofs.Ytniioedflegdkaa
open Go Go.Ab Go.Proofs Go.Fs
def lExactG_enc : (List Bs) × (List Wr) × (Bool) × (Bool) × (Bs) → List V := fun ⟨ss, cs, f, g, t⟩ => [.agg [.s (.list 1 (encs strE ss) f), .s (.list 2 (encs wrE cs) g)], .c (.s (.str t))]
theorem lExactG_inj : ∀ x y, lExactG_enc x = lExactG_enc y → x = y := by
  rintro ⟨ss, cs, f, g, t⟩ ⟨ss2, cs2, f2, g2, t2⟩ h
  simp only [lExactG_enc, List.cons.injEq, V.c.injEq, V.agg.injEq, C.s.injEq, S.list.injEq, S.str.injEq, S.int.injEq, S.bool.injEq, S.fn.injEq, S.cref.injEq, strE_inj, true_and, and_true, wrE_inj] at h
  simp_all
noncomputable def lExactG : List V → Option (V) := specE lExactG_enc (fun ⟨ss, cs, f, g, t⟩ => fitC cs.length) (fun ⟨ss, cs, f, g, t⟩ => .c (.s (.bool true)))
theorem lExactG_eq {ss : List Bs} {cs : List Wr} {f : Bool} {g : Bool} {t : Bs} [Decidable (fitC cs.length)] : lExactG [.agg [.s (.list 1 (encs strE ss) f), .s (.list 2 (encs wrE cs) g)], .c (.s (.str t))] = if fitC cs.length then some (.c (.s (.bool true))) else none := specE_eq lExactG_inj (ss, cs, f, g, t)
theorem lExactG_call {ss : List Bs} {cs : List Wr} {f : Bool} {g : Bool} {t : Bs} {gt : Bool} {K : V → Prop} : callE lExactG [.agg [.s (.list 1 (encs strE ss) f), .s (.list 2 (encs wrE cs) g)], .c (.s (.str t))] gt K = ((gt = true → fitC cs.length) ∧ bindV (ifV gt (.c (.s (.bool true)))) K) := by
  have := Classical.propDecidable (fitC cs.length)
  exact callE_of lExactG_eq
theorem lExactG_callo {ss : List Bs} {cs : List Wr} {f : Bool} {g : Bool} {t : Bs} {m : Nat → Option Ab.Obj} {locs : List Nat} {K : V → (Nat → Option Ab.Obj) → Prop} : callO lExactG (some [.agg [.s (.list 1 (encs strE ss) f), .s (.list 2 (encs wrE cs) g)], .c (.s (.str t))]) m locs K = ((fitC cs.length) ∧ K (.c (.s (.bool true))) (sealW m locs (.c (.s (.bool true))))) := by
  have := Classical.propDecidable (fitC cs.length)
  exact callO_of lExactG_eq
attribute [go_sem] lExactG_call lExactG_callo

def sc_law18_LogExact : SC := .seq (.reg [⟨some 2, .box 2, [.t 0], none⟩,
⟨some 4, .mv, [.k (.c (.s (.bool false)))], none⟩]) (.seq (.reg [⟨some 14, .load 2 true, [.t 2], none⟩,
⟨some 15, .call 13, [.t 14], none⟩,
⟨some 5, .alloc [.list 0 [] true, .list 0 [] true], [], none⟩,
⟨none, .store 2 true, [.t 5, .t 15], none⟩]) (.seq (.seq (.reg [⟨some 16, .load 2 true, [.t 5], none⟩,
⟨some 17, .call 14, [.t 16], none⟩,
⟨some 18, .not, [.t 17], none⟩,
⟨some 19, .mv, [.t 18], none⟩,
⟨some 20, .mv, [.t 1], some (19, false)⟩,
⟨some 21, .len true, [.t 20], some (19, false)⟩,
⟨some 22, .bin .gtr, [.t 21, .k (.c (.s (.int .i64 1500)))], some (19, false)⟩,
⟨some 23, .pick, [.t 19, .k (.c (.s (.bool true))), .t 22], none⟩]) (.cond (.t 23) (.seq (.reg [⟨some 24, .call 15, [], none⟩,
⟨some 4, .mv, [.t 24], none⟩]) (.ret)) (.skip))) (.seq (.reg [⟨some 26, .load 2 true, [.t 2], none⟩,
⟨some 27, .call 16, [.t 26], none⟩,
⟨some 25, .mv, [.t 27], none⟩,
⟨some 28, .ext 0, [.t 25], none⟩,
⟨some 29, .ext 1, [.t 25], none⟩,
⟨some 6, .alloc [.int .i64 0, .list 0 [] true, .int .i64 0], [], none⟩,
⟨none, .store 3 true, [.t 6, .t 28], none⟩,
⟨some 7, .mv, [.t 29], none⟩]) (.seq (.reg [⟨some 31, .load 2 true, [.t 5], none⟩,
⟨some 32, .call 17, [.t 31], none⟩,
⟨some 30, .mv, [.t 32], none⟩,
⟨some 33, .ext 0, [.t 30], none⟩,
⟨some 34, .ext 1, [.t 30], none⟩,
⟨some 8, .alloc [.int .i64 0, .list 0 [] true, .int .i64 0], [], none⟩,
⟨none, .store 3 true, [.t 8, .t 33], none⟩,
⟨some 9, .mv, [.t 34], none⟩]) (.seq (.seq (.regD [⟨some 35, .fadr 0, [.t 6], none⟩,
⟨some 36, .load 1 false, [.t 35], none⟩,
⟨some 37, .fadr 0, [.t 8], none⟩,
⟨some 38, .load 1 false, [.t 37], none⟩,
⟨some 39, .bin .neq, [.t 36, .t 38], none⟩,
⟨some 40, .mv, [.t 39], none⟩,
⟨some 41, .fadr 2, [.t 6], some (40, false)⟩,
⟨some 42, .load 1 false, [.t 41], some (40, false)⟩,
⟨some 43, .fadr 2, [.t 8], some (40, false)⟩,
⟨some 44, .load 1 false, [.t 43], some (40, false)⟩,
⟨some 45, .bin .neq, [.t 42, .t 44], some (40, false)⟩,
⟨some 46, .pick, [.t 40, .k (.c (.s (.bool true))), .t 45], none⟩,
⟨some 47, .mv, [.t 46], none⟩,
⟨some 48, .fadr 1, [.t 6], some (47, false)⟩,
⟨some 49, .load 1 false, [.t 48], some (47, false)⟩,
⟨some 50, .call 19, [.t 49], some (47, false)⟩,
⟨some 51, .fadr 1, [.t 8], some (47, false)⟩,
⟨some 52, .load 1 false, [.t 51], some (47, false)⟩,
⟨some 53, .call 18, [.t 50, .t 52], some (47, false)⟩,
⟨some 54, .not, [.t 53], some (47, false)⟩,
⟨some 55, .pick, [.t 47, .k (.c (.s (.bool true))), .t 54], none⟩,
⟨some 56, .mv, [.t 55], none⟩,
⟨some 57, .mv, [.t 7], some (56, false)⟩,
⟨some 58, .mv, [.t 9], some (56, false)⟩,
⟨some 59, .bin .neq, [.t 57, .t 58], some (56, false)⟩,
⟨some 60, .pick, [.t 56, .k (.c (.s (.bool true))), .t 59], none⟩] [(15, 16), (15, 17)]) (.cond (.t 60) (.seq (.reg [⟨some 4, .mv, [.k (.c (.s (.bool false)))], none⟩]) (.ret)) (.skip))) (.seq (.reg [⟨some 62, .load 2 true, [.t 2], none⟩,
⟨some 63, .mv, [.t 1], none⟩,
⟨some 64, .call 20, [.t 62, .t 63], none⟩,
⟨some 61, .mv, [.t 64], none⟩,
⟨some 65, .ext 0, [.t 61], none⟩,
⟨some 66, .ext 1, [.t 61], none⟩,
⟨some 10, .mv, [.t 65], none⟩,
⟨some 11, .mv, [.t 66], none⟩]) (.seq (.reg [⟨some 68, .load 2 true, [.t 5], none⟩,
⟨some 69, .mv, [.t 1], none⟩,
⟨some 70, .call 21, [.t 68, .t 69], none⟩,
⟨some 67, .mv, [.t 70], none⟩,
⟨some 71, .ext 0, [.t 67], none⟩,
⟨some 72, .ext 1, [.t 67], none⟩,
⟨some 12, .mv, [.t 71], none⟩,
⟨some 13, .mv, [.t 72], none⟩]) (.seq (.reg [⟨some 73, .mv, [.t 10], none⟩,
⟨some 74, .call 23, [.t 73], none⟩,
⟨some 75, .mv, [.t 12], none⟩,
⟨some 76, .call 22, [.t 74, .t 75], none⟩,
⟨some 77, .mv, [.t 76], none⟩,
⟨some 78, .mv, [.t 11], some (77, true)⟩,
⟨some 79, .mv, [.t 13], some (77, true)⟩,
⟨some 80, .bin .eql, [.t 78, .t 79], some (77, true)⟩,
⟨some 81, .pick, [.t 77, .t 80, .k (.c (.s (.bool false)))], none⟩,
⟨some 82, .mv, [.t 81], none⟩,
⟨some 83, .call 15, [], some (82, true)⟩,
⟨some 84, .pick, [.t 82, .t 83, .k (.c (.s (.bool false)))], none⟩,
⟨some 4, .mv, [.t 84], none⟩]) (.ret)))))))))
noncomputable def G_law18_LogExact : FuncId → Ab.Spec := addS (addS (addS (addS (addS (addS (addS (addS (addS (addS (addS (noS) 13 (plain refG)) 14 (plain smallG)) 15 (plain awakeLG)) 16 (plain scanG)) 17 (plain rScanG)) 19 (plain refsRG)) 18 (plain sameLG)) 20 (plain appendG)) 21 (plain rAppendG)) 23 (plain opsRG)) 22 (plain sameOG)
theorem G_law18_LogExact_ok : ∀ f, Contract Try.prog f (G_law18_LogExact f) := (addS_ok (addS_ok (addS_ok (addS_ok (addS_ok (addS_ok (addS_ok (addS_ok (addS_ok (addS_ok (addS_ok (noS_ok _) contract_law17_Ref) contract_ref17_Small) contract_law18_awake) contract_log_Scan) contract_ref18_Scan) contract_law18_Refs) contract_ref18_Records) contract_log_Append) contract_ref18_Append) contract_law18_ops) contract_ref18_Same)
theorem G3_13 : G_law18_LogExact 13 = plain refG := by simp [G_law18_LogExact, addS]
theorem G3_14 : G_law18_LogExact 14 = plain smallG := by simp [G_law18_LogExact, addS]
theorem G3_15 : G_law18_LogExact 15 = plain awakeLG := by simp [G_law18_LogExact, addS]
theorem G3_16 : G_law18_LogExact 16 = plain scanG := by simp [G_law18_LogExact, addS]
theorem G3_17 : G_law18_LogExact 17 = plain rScanG := by simp [G_law18_LogExact, addS]
theorem G3_19 : G_law18_LogExact 19 = plain refsRG := by simp [G_law18_LogExact, addS]
theorem G3_18 : G_law18_LogExact 18 = plain sameLG := by simp [G_law18_LogExact, addS]
theorem G3_20 : G_law18_LogExact 20 = plain appendG := by simp [G_law18_LogExact, addS]
theorem G3_21 : G_law18_LogExact 21 = plain rAppendG := by simp [G_law18_LogExact, addS]
theorem G3_23 : G_law18_LogExact 23 = plain opsRG := by simp [G_law18_LogExact, addS]
theorem G3_22 : G_law18_LogExact 22 = plain sameOG := by simp [G_law18_LogExact, addS]
set_option maxHeartbeats 16000000 in
set_option maxRecDepth 1000000 in
set_option linter.unusedSimpArgs false in
set_option linter.unusedVariables false in
theorem contract_law18_LogExact : Contract Try.prog 3 (plain lExactG) := by
  have hb : ∃ c, Try.f3.body = some c ∧ codeOk 85 c = true ∧ cCode Try.prog c = sc_law18_LogExact := ⟨_, rfl, by kernel_rfl, by kernel_rfl⟩
  obtain ⟨c, hb1, hb2, hb3⟩ := hb
  refine contract_of (n := 2) G_law18_LogExact_ok hB hD Try.func3 hb1 (by kernel_rfl) hb2 hb3 (rs := [.tmp 4]) (by kernel_rfl) (by decide) ?_ ?_
  · intro args x h
    obtain ⟨y, hy, -⟩ := Option.map_eq_some_iff.1 h
    obtain ⟨⟨ss, cs, f, g, t⟩, rfl, -⟩ := specE_some hy
    rfl
  · intro args r hr
    obtain ⟨y, hy, rfl⟩ := Option.map_eq_some_iff.1 hr
    obtain ⟨⟨ss, cs, f, g, t⟩, rfl, hc, rfl⟩ := specE_some hy
    clear hr hy
    have hc : fitC cs.length := hc
    change awp _ _ (postQ _ (.v (.c (.s (.bool true))))) _
    unfold lExactG_enc sc_law18_LogExact
    have hfc := hc
    cases hsm9 : smallD ⟨ss, cs⟩ with
    | false => simp +contextual (maxSteps := 4000000) only [↓exT_call G3_13, ↓exT_callo G3_13, ↓exT_calloG G3_13, ↓exT_call G3_14, ↓exT_callo G3_14, ↓exT_calloG G3_14, ↓exT_call G3_15, ↓exT_callo G3_15, ↓exT_calloG G3_15, ↓exT_call G3_16, ↓exT_callo G3_16, ↓exT_calloG G3_16, ↓exT_call G3_17, ↓exT_callo G3_17, ↓exT_calloG G3_17, ↓exT_call G3_19, ↓exT_callo G3_19, ↓exT_calloG G3_19, ↓exT_call G3_18, ↓exT_callo G3_18, ↓exT_calloG G3_18, ↓exT_call G3_20, ↓exT_callo G3_20, ↓exT_calloG G3_20, ↓exT_call G3_21, ↓exT_callo G3_21, ↓exT_calloG G3_21, ↓exT_call G3_23, ↓exT_callo G3_23, ↓exT_calloG G3_23, ↓exT_call G3_22, ↓exT_callo G3_22, ↓exT_calloG G3_22, hfc, hsm9, go_sem, Nat.reduceAdd, Nat.reduceSub, Nat.reduceMul, Nat.reduceEqDiff, Nat.reduceLeDiff, Nat.reduceLT, Nat.reduceBEq, Int.reduceLE, Int.reduceLT, Int.reduceToNat, Int.reduceNeg, Int.reduceAdd, Int.reduceSub, Int.reduceMul, ↓reduceIte]
    | true =>
    obtain ⟨c1, c2⟩ := small_4 hsm9
    have hrl := recs_len ⟨ss, cs⟩
    have hal := append_len ⟨ss, cs⟩ t
    have hal2 : (appendD ⟨ss, cs⟩ t).1.length < 4000000 := by omega
    by_cases hsm : smallD ⟨ss, cs⟩ = true
    case neg =>
      have hsm' : smallD ⟨ss, cs⟩ = false := by simpa using hsm
      simp (maxSteps := 4000000) only [↓exT_call G3_13, ↓exT_callo G3_13, ↓exT_calloG G3_13, ↓exT_call G3_14, ↓exT_callo G3_14, ↓exT_calloG G3_14, ↓exT_call G3_15, ↓exT_callo G3_15, ↓exT_calloG G3_15, ↓exT_call G3_16, ↓exT_callo G3_16, ↓exT_calloG G3_16, ↓exT_call G3_17, ↓exT_callo G3_17, ↓exT_calloG G3_17, ↓exT_call G3_19, ↓exT_callo G3_19, ↓exT_calloG G3_19, ↓exT_call G3_18, ↓exT_callo G3_18, ↓exT_calloG G3_18, ↓exT_call G3_20, ↓exT_callo G3_20, ↓exT_calloG G3_20, ↓exT_call G3_21, ↓exT_callo G3_21, ↓exT_calloG G3_21, ↓exT_call G3_23, ↓exT_callo G3_23, ↓exT_calloG G3_23, ↓exT_call G3_22, ↓exT_callo G3_22, ↓exT_calloG G3_22, c1, c2, hsm', go_sem, Nat.reduceAdd, Nat.reduceSub, Nat.reduceMul, Nat.reduceEqDiff, Nat.reduceLeDiff, Nat.reduceLT, Nat.reduceBEq, Int.reduceLE, Int.reduceLT, Int.reduceToNat, Int.reduceNeg, Int.reduceAdd, Int.reduceSub, Int.reduceMul, ↓reduceIte]
    by_cases htl : 1500 < (t.length : Int)
    case pos =>
      simp (maxSteps := 4000000) only [↓exT_call G3_13, ↓exT_callo G3_13, ↓exT_calloG G3_13, ↓exT_call G3_14, ↓exT_callo G3_14, ↓exT_calloG G3_14, ↓exT_call G3_15, ↓exT_callo G3_15, ↓exT_calloG G3_15, ↓exT_call G3_16, ↓exT_callo G3_16, ↓exT_calloG G3_16, ↓exT_call G3_17, ↓exT_callo G3_17, ↓exT_calloG G3_17, ↓exT_call G3_19, ↓exT_callo G3_19, ↓exT_calloG G3_19, ↓exT_call G3_18, ↓exT_callo G3_18, ↓exT_calloG G3_18, ↓exT_call G3_20, ↓exT_callo G3_20, ↓exT_calloG G3_20, ↓exT_call G3_21, ↓exT_callo G3_21, ↓exT_calloG G3_21, ↓exT_call G3_23, ↓exT_callo G3_23, ↓exT_calloG G3_23, ↓exT_call G3_22, ↓exT_callo G3_22, ↓exT_calloG G3_22, c1, c2, hsm, htl, go_sem, Nat.reduceAdd, Nat.reduceSub, Nat.reduceMul, Nat.reduceEqDiff, Nat.reduceLeDiff, Nat.reduceLT, Nat.reduceBEq, Int.reduceLE, Int.reduceLT, Int.reduceToNat, Int.reduceNeg, Int.reduceAdd, Int.reduceSub, Int.reduceMul, ↓reduceIte]
    simp (maxSteps := 4000000) only [↓exT_call G3_13, ↓exT_callo G3_13, ↓exT_calloG G3_13, ↓exT_call G3_14, ↓exT_callo G3_14, ↓exT_calloG G3_14, ↓exT_call G3_15, ↓exT_callo G3_15, ↓exT_calloG G3_15, ↓exT_call G3_16, ↓exT_callo G3_16, ↓exT_calloG G3_16, ↓exT_call G3_17, ↓exT_callo G3_17, ↓exT_calloG G3_17, ↓exT_call G3_19, ↓exT_callo G3_19, ↓exT_calloG G3_19, ↓exT_call G3_18, ↓exT_callo G3_18, ↓exT_calloG G3_18, ↓exT_call G3_20, ↓exT_callo G3_20, ↓exT_calloG G3_20, ↓exT_call G3_21, ↓exT_callo G3_21, ↓exT_calloG G3_21, ↓exT_call G3_23, ↓exT_callo G3_23, ↓exT_calloG G3_23, ↓exT_call G3_22, ↓exT_callo G3_22, ↓exT_calloG G3_22, c1, c2, hsm, htl, hrl, hal2, go_sem, Nat.reduceAdd, Nat.reduceSub, Nat.reduceMul, Nat.reduceEqDiff, Nat.reduceLeDiff, Nat.reduceLT, Nat.reduceBEq, Int.reduceLE, Int.reduceLT, Int.reduceToNat, Int.reduceNeg, Int.reduceAdd, Int.reduceSub, Int.reduceMul, ↓reduceIte]

def lRenewalG_enc : (List Bs) × (List Wr) × (Bool) × (Bool) × (List Rec) × (Bool) → List V := fun ⟨ss, cs, f, g, l, h⟩ => [.agg [.s (.list 1 (encs strE ss) f), .s (.list 2 (encs wrE cs) g)], .c (.s (.list 2 (encs recE l) h))]
theorem lRenewalG_inj : ∀ x y, lRenewalG_enc x = lRenewalG_enc y → x = y := by
  rintro ⟨ss, cs, f, g, l, h⟩ ⟨ss2, cs2, f2, g2, l2, h2⟩ h
  simp only [lRenewalG_enc, List.cons.injEq, V.c.injEq, V.agg.injEq, C.s.injEq, S.list.injEq, S.str.injEq, S.int.injEq, S.bool.injEq, S.fn.injEq, S.cref.injEq, strE_inj, true_and, and_true, wrE_inj, recE_inj] at h
  simp_all
noncomputable def lRenewalG : List V → Option (V) := specE lRenewalG_enc (fun ⟨ss, cs, f, g, l, h⟩ => fitC cs.length) (fun ⟨ss, cs, f, g, l, h⟩ => .c (.s (.bool true)))
theorem lRenewalG_eq {ss : List Bs} {cs : List Wr} {f : Bool} {g : Bool} {l : List Rec} {h : Bool} [Decidable (fitC cs.length)] : lRenewalG [.agg [.s (.list 1 (encs strE ss) f), .s (.list 2 (encs wrE cs) g)], .c (.s (.list 2 (encs recE l) h))] = if fitC cs.length then some (.c (.s (.bool true))) else none := specE_eq lRenewalG_inj (ss, cs, f, g, l, h)
theorem lRenewalG_call {ss : List Bs} {cs : List Wr} {f : Bool} {g : Bool} {l : List Rec} {h : Bool} {gt : Bool} {K : V → Prop} : callE lRenewalG [.agg [.s (.list 1 (encs strE ss) f), .s (.list 2 (encs wrE cs) g)], .c (.s (.list 2 (encs recE l) h))] gt K = ((gt = true → fitC cs.length) ∧ bindV (ifV gt (.c (.s (.bool true)))) K) := by
  have := Classical.propDecidable (fitC cs.length)
  exact callE_of lRenewalG_eq
theorem lRenewalG_callo {ss : List Bs} {cs : List Wr} {f : Bool} {g : Bool} {l : List Rec} {h : Bool} {m : Nat → Option Ab.Obj} {locs : List Nat} {K : V → (Nat → Option Ab.Obj) → Prop} : callO lRenewalG (some [.agg [.s (.list 1 (encs strE ss) f), .s (.list 2 (encs wrE cs) g)], .c (.s (.list 2 (encs recE l) h))]) m locs K = ((fitC cs.length) ∧ K (.c (.s (.bool true))) (sealW m locs (.c (.s (.bool true))))) := by
  have := Classical.propDecidable (fitC cs.length)
  exact callO_of lRenewalG_eq
attribute [go_sem] lRenewalG_call lRenewalG_callo

def sc_law18_LogRenewal : SC := .seq (.reg [⟨some 2, .box 2, [.t 0], none⟩,
⟨some 4, .mv, [.k (.c (.s (.bool false)))], none⟩]) (.seq (.reg [⟨some 12, .load 2 true, [.t 2], none⟩,
⟨some 13, .call 13, [.t 12], none⟩,
⟨some 5, .alloc [.list 0 [] true, .list 0 [] true], [], none⟩,
⟨none, .store 2 true, [.t 5, .t 13], none⟩]) (.seq (.seq (.reg [⟨some 14, .load 2 true, [.t 5], none⟩,
⟨some 15, .call 14, [.t 14], none⟩,
⟨some 16, .not, [.t 15], none⟩,
⟨some 17, .mv, [.t 16], none⟩,
⟨some 18, .mv, [.t 1], some (17, false)⟩,
⟨some 19, .len false, [.t 18], some (17, false)⟩,
⟨some 20, .bin .gtr, [.t 19, .k (.c (.s (.int .i64 20)))], some (17, false)⟩,
⟨some 21, .pick, [.t 17, .k (.c (.s (.bool true))), .t 20], none⟩]) (.cond (.t 21) (.seq (.reg [⟨some 22, .call 15, [], none⟩,
⟨some 4, .mv, [.t 22], none⟩]) (.ret)) (.skip))) (.seq (.seq (.reg [⟨some 23, .mv, [.t 1], none⟩,
⟨some 24, .len false, [.t 23], none⟩,
⟨some 25, .mv, [.k (.c (.s (.int .i64 0)))], none⟩]) (.block 0 (.loop (.seq (.reg [⟨some 26, .bin .lss, [.t 25, .t 24], none⟩]) (.seq (.cond (.t 26) (.skip) (.exit 0)) (.seq (.block 1 (.seq (.reg [⟨some 27, .iadr 2, [.t 23, .t 25], none⟩,
⟨some 28, .load 2 true, [.t 27], none⟩,
⟨some 7, .alloc [.int .i64 0, .str []], [], none⟩,
⟨none, .store 2 true, [.t 7, .t 28], none⟩]) (.seq (.reg [⟨some 29, .fadr 1, [.t 7], none⟩,
⟨some 30, .load 1 false, [.t 29], none⟩,
⟨some 31, .len true, [.t 30], none⟩,
⟨some 32, .bin .gtr, [.t 31, .k (.c (.s (.int .i64 1500)))], none⟩]) (.cond (.t 32) (.seq (.reg [⟨some 33, .call 15, [], none⟩,
⟨some 4, .mv, [.t 33], none⟩]) (.ret)) (.skip))))) (.reg [⟨some 34, .bin .add, [.t 25, .k (.c (.s (.int .i64 1)))], none⟩,
⟨some 25, .mv, [.t 34], none⟩]))))))) (.seq (.reg [⟨some 36, .load 2 true, [.t 2], none⟩,
⟨some 37, .mv, [.t 1], none⟩,
⟨some 38, .call 24, [.t 36, .t 37], none⟩,
⟨some 35, .mv, [.t 38], none⟩,
⟨some 39, .ext 0, [.t 35], none⟩,
⟨some 40, .ext 1, [.t 35], none⟩,
⟨some 8, .mv, [.t 39], none⟩,
⟨some 9, .mv, [.t 40], none⟩]) (.seq (.regD [⟨some 42, .load 2 true, [.t 5], none⟩,
⟨some 43, .mv, [.t 1], none⟩,
⟨some 44, .call 19, [.t 43], none⟩,
⟨some 45, .call 25, [.t 42, .t 44], none⟩,
⟨some 41, .mv, [.t 45], none⟩,
⟨some 46, .ext 0, [.t 41], none⟩,
⟨some 47, .ext 1, [.t 41], none⟩,
⟨some 10, .mv, [.t 46], none⟩,
⟨some 11, .mv, [.t 47], none⟩] [(0, 2)]) (.seq (.reg [⟨some 48, .mv, [.t 8], none⟩,
⟨some 49, .call 23, [.t 48], none⟩,
⟨some 50, .mv, [.t 10], none⟩,
⟨some 51, .call 22, [.t 49, .t 50], none⟩,
⟨some 52, .mv, [.t 51], none⟩,
⟨some 53, .mv, [.t 9], some (52, true)⟩,
⟨some 54, .mv, [.t 11], some (52, true)⟩,
⟨some 55, .bin .eql, [.t 53, .t 54], some (52, true)⟩,
⟨some 56, .pick, [.t 52, .t 55, .k (.c (.s (.bool false)))], none⟩,
⟨some 57, .mv, [.t 56], none⟩,
⟨some 58, .call 15, [], some (57, true)⟩,
⟨some 59, .pick, [.t 57, .t 58, .k (.c (.s (.bool false)))], none⟩,
⟨some 4, .mv, [.t 59], none⟩]) (.ret)))))))
noncomputable def G_law18_LogRenewal : FuncId → Ab.Spec := addS (addS (addS (addS (addS (addS (addS (addS (noS) 13 (plain refG)) 14 (plain smallG)) 15 (plain awakeLG)) 24 (plain renewG)) 19 (plain refsRG)) 25 (plain rRenewG)) 23 (plain opsRG)) 22 (plain sameOG)
theorem G_law18_LogRenewal_ok : ∀ f, Contract Try.prog f (G_law18_LogRenewal f) := (addS_ok (addS_ok (addS_ok (addS_ok (addS_ok (addS_ok (addS_ok (addS_ok (noS_ok _) contract_law17_Ref) contract_ref17_Small) contract_law18_awake) contract_log_Renew) contract_law18_Refs) contract_ref18_Renew) contract_law18_ops) contract_ref18_Same)
theorem G4_13 : G_law18_LogRenewal 13 = plain refG := by simp [G_law18_LogRenewal, addS]
theorem G4_14 : G_law18_LogRenewal 14 = plain smallG := by simp [G_law18_LogRenewal, addS]
theorem G4_15 : G_law18_LogRenewal 15 = plain awakeLG := by simp [G_law18_LogRenewal, addS]
theorem G4_24 : G_law18_LogRenewal 24 = plain renewG := by simp [G_law18_LogRenewal, addS]
theorem G4_19 : G_law18_LogRenewal 19 = plain refsRG := by simp [G_law18_LogRenewal, addS]
theorem G4_25 : G_law18_LogRenewal 25 = plain rRenewG := by simp [G_law18_LogRenewal, addS]
theorem G4_23 : G_law18_LogRenewal 23 = plain opsRG := by simp [G_law18_LogRenewal, addS]
theorem G4_22 : G_law18_LogRenewal 22 = plain sameOG := by simp [G_law18_LogRenewal, addS]
set_option maxHeartbeats 16000000 in
set_option maxRecDepth 1000000 in
set_option linter.unusedSimpArgs false in
set_option linter.unusedVariables false in
theorem contract_law18_LogRenewal : Contract Try.prog 4 (plain lRenewalG) := by
  have hb : ∃ c, Try.f4.body = some c ∧ codeOk 60 c = true ∧ cCode Try.prog c = sc_law18_LogRenewal := ⟨_, rfl, by kernel_rfl, by kernel_rfl⟩
  obtain ⟨c, hb1, hb2, hb3⟩ := hb
  refine contract_of (n := 2) G_law18_LogRenewal_ok hB hD Try.func4 hb1 (by kernel_rfl) hb2 hb3 (rs := [.tmp 4]) (by kernel_rfl) (by decide) ?_ ?_
  · intro args x h
    obtain ⟨y, hy, -⟩ := Option.map_eq_some_iff.1 h
    obtain ⟨⟨ss, cs, f, g, l, h⟩, rfl, -⟩ := specE_some hy
    rfl
  · intro args r hr
    obtain ⟨y, hy, rfl⟩ := Option.map_eq_some_iff.1 hr
    obtain ⟨⟨ss, cs, f, g, l, h⟩, rfl, hc, rfl⟩ := specE_some hy
    clear hr hy
    have hc : fitC cs.length := hc
    change awp _ _ (postQ _ (.v (.c (.s (.bool true))))) _
    unfold lRenewalG_enc sc_law18_LogRenewal
    have hfc := hc
    cases hsm9 : smallD ⟨ss, cs⟩ with
    | false => simp +contextual (maxSteps := 4000000) only [↓exT_call G4_13, ↓exT_callo G4_13, ↓exT_calloG G4_13, ↓exT_call G4_14, ↓exT_callo G4_14, ↓exT_calloG G4_14, ↓exT_call G4_15, ↓exT_callo G4_15, ↓exT_calloG G4_15, ↓exT_call G4_24, ↓exT_callo G4_24, ↓exT_calloG G4_24, ↓exT_call G4_19, ↓exT_callo G4_19, ↓exT_calloG G4_19, ↓exT_call G4_25, ↓exT_callo G4_25, ↓exT_calloG G4_25, ↓exT_call G4_23, ↓exT_callo G4_23, ↓exT_calloG G4_23, ↓exT_call G4_22, ↓exT_callo G4_22, ↓exT_calloG G4_22, hfc, hsm9, go_sem, Nat.reduceAdd, Nat.reduceSub, Nat.reduceMul, Nat.reduceEqDiff, Nat.reduceLeDiff, Nat.reduceLT, Nat.reduceBEq, Int.reduceLE, Int.reduceLT, Int.reduceToNat, Int.reduceNeg, Int.reduceAdd, Int.reduceSub, Int.reduceMul, ↓reduceIte]
    | true =>
    obtain ⟨c1, c2⟩ := small_4 hsm9
    have hal := renew_len ⟨ss, cs⟩ l
    have hal2 : (renewD ⟨ss, cs⟩ l).1.length < 4000000 := by omega
    by_cases hsm : smallD ⟨ss, cs⟩ = true
    case neg =>
      have hsm' : smallD ⟨ss, cs⟩ = false := by simpa using hsm
      simp (maxSteps := 4000000) only [↓exT_call G4_13, ↓exT_callo G4_13, ↓exT_calloG G4_13, ↓exT_call G4_14, ↓exT_callo G4_14, ↓exT_calloG G4_14, ↓exT_call G4_15, ↓exT_callo G4_15, ↓exT_calloG G4_15, ↓exT_call G4_24, ↓exT_callo G4_24, ↓exT_calloG G4_24, ↓exT_call G4_19, ↓exT_callo G4_19, ↓exT_calloG G4_19, ↓exT_call G4_25, ↓exT_callo G4_25, ↓exT_calloG G4_25, ↓exT_call G4_23, ↓exT_callo G4_23, ↓exT_calloG G4_23, ↓exT_call G4_22, ↓exT_callo G4_22, ↓exT_calloG G4_22, c1, c2, hsm', go_sem, Nat.reduceAdd, Nat.reduceSub, Nat.reduceMul, Nat.reduceEqDiff, Nat.reduceLeDiff, Nat.reduceLT, Nat.reduceBEq, Int.reduceLE, Int.reduceLT, Int.reduceToNat, Int.reduceNeg, Int.reduceAdd, Int.reduceSub, Int.reduceMul, ↓reduceIte]
    by_cases htl : 20 < (l.length : Int)
    case pos =>
      simp (maxSteps := 4000000) only [↓exT_call G4_13, ↓exT_callo G4_13, ↓exT_calloG G4_13, ↓exT_call G4_14, ↓exT_callo G4_14, ↓exT_calloG G4_14, ↓exT_call G4_15, ↓exT_callo G4_15, ↓exT_calloG G4_15, ↓exT_call G4_24, ↓exT_callo G4_24, ↓exT_calloG G4_24, ↓exT_call G4_19, ↓exT_callo G4_19, ↓exT_calloG G4_19, ↓exT_call G4_25, ↓exT_callo G4_25, ↓exT_calloG G4_25, ↓exT_call G4_23, ↓exT_callo G4_23, ↓exT_calloG G4_23, ↓exT_call G4_22, ↓exT_callo G4_22, ↓exT_calloG G4_22, c1, c2, hsm, htl, go_sem, Nat.reduceAdd, Nat.reduceSub, Nat.reduceMul, Nat.reduceEqDiff, Nat.reduceLeDiff, Nat.reduceLT, Nat.reduceBEq, Int.reduceLE, Int.reduceLT, Int.reduceToNat, Int.reduceNeg, Int.reduceAdd, Int.reduceSub, Int.reduceMul, ↓reduceIte]
    have hll : l.length < 4000000 := by omega
    simp (maxSteps := 4000000) only [↓exT_call G4_13, ↓exT_callo G4_13, ↓exT_calloG G4_13, ↓exT_call G4_14, ↓exT_callo G4_14, ↓exT_calloG G4_14, ↓exT_call G4_15, ↓exT_callo G4_15, ↓exT_calloG G4_15, ↓exT_call G4_24, ↓exT_callo G4_24, ↓exT_calloG G4_24, ↓exT_call G4_19, ↓exT_callo G4_19, ↓exT_calloG G4_19, ↓exT_call G4_25, ↓exT_callo G4_25, ↓exT_calloG G4_25, ↓exT_call G4_23, ↓exT_callo G4_23, ↓exT_calloG G4_23, ↓exT_call G4_22, ↓exT_callo G4_22, ↓exT_calloG G4_22, c1, c2, hsm, htl, go_sem, Nat.reduceAdd, Nat.reduceSub, Nat.reduceMul, Nat.reduceEqDiff, Nat.reduceLeDiff, Nat.reduceLT, Nat.reduceBEq, Int.reduceLE, Int.reduceLT, Int.reduceToNat, Int.reduceNeg, Int.reduceAdd, Int.reduceSub, Int.reduceMul, ↓reduceIte]
    refine awp_loopM (α := Nat) (fun i => [(1, .c (.s (.list 2 (encs recE l) h))), (2, .c (.ptr 2 0)), (5, .c (.ptr 5 0)), (23, .c (.s (.list 2 (encs recE l) h))), (24, .c (.s (.int .i64 l.length))), (25, .c (.s (.int .i64 i)))])
      (fun _ => [(2, .box [.s (.list 1 (encs strE ss) f), .s (.list 2 (encs wrE cs) g)]), (5, .box [.s (.list 1 (encs strE ((⟨ss, cs⟩ : Disk)).sectors) false), .s (.list 2 (encs wrE ((⟨ss, cs⟩ : Disk)).cache) false)])]) (fun i => l.length - i) 0 (fun i => i ≤ l.length) (Nat.zero_le _) (Weak.meets ?_) ?_
    · simp (maxSteps := 4000000) only [↓exT_call G4_13, ↓exT_callo G4_13, ↓exT_calloG G4_13, ↓exT_call G4_14, ↓exT_callo G4_14, ↓exT_calloG G4_14, ↓exT_call G4_15, ↓exT_callo G4_15, ↓exT_calloG G4_15, ↓exT_call G4_24, ↓exT_callo G4_24, ↓exT_calloG G4_24, ↓exT_call G4_19, ↓exT_callo G4_19, ↓exT_calloG G4_19, ↓exT_call G4_25, ↓exT_callo G4_25, ↓exT_calloG G4_25, ↓exT_call G4_23, ↓exT_callo G4_23, ↓exT_calloG G4_23, ↓exT_call G4_22, ↓exT_callo G4_22, ↓exT_calloG G4_22, go_sem, Nat.reduceAdd, Nat.reduceSub, Nat.reduceMul, Nat.reduceEqDiff, Nat.reduceLeDiff, Nat.reduceLT, Nat.reduceBEq, Int.reduceLE, Int.reduceLT, Int.reduceToNat, Int.reduceNeg, Int.reduceAdd, Int.reduceSub, Int.reduceMul, ↓reduceIte]
      rfl
    intro x hx
    by_cases hxl : x < l.length
    · have hxi : (x : Int) < (l.length : Int) := by omega
      by_cases h6 : 1500 < (((l.getD x default).text.length : Nat) : Int)
      · simp (maxSteps := 4000000) only [↓exT_call G4_13, ↓exT_callo G4_13, ↓exT_calloG G4_13, ↓exT_call G4_14, ↓exT_callo G4_14, ↓exT_calloG G4_14, ↓exT_call G4_15, ↓exT_callo G4_15, ↓exT_calloG G4_15, ↓exT_call G4_24, ↓exT_callo G4_24, ↓exT_calloG G4_24, ↓exT_call G4_19, ↓exT_callo G4_19, ↓exT_calloG G4_19, ↓exT_call G4_25, ↓exT_callo G4_25, ↓exT_calloG G4_25, ↓exT_call G4_23, ↓exT_callo G4_23, ↓exT_calloG G4_23, ↓exT_call G4_22, ↓exT_callo G4_22, ↓exT_calloG G4_22, hxi, h6, go_sem, Nat.reduceAdd, Nat.reduceSub, Nat.reduceMul, Nat.reduceEqDiff, Nat.reduceLeDiff, Nat.reduceLT, Nat.reduceBEq, Int.reduceLE, Int.reduceLT, Int.reduceToNat, Int.reduceNeg, Int.reduceAdd, Int.reduceSub, Int.reduceMul, ↓reduceIte]
      · simp (maxSteps := 4000000) only [↓exT_call G4_13, ↓exT_callo G4_13, ↓exT_calloG G4_13, ↓exT_call G4_14, ↓exT_callo G4_14, ↓exT_calloG G4_14, ↓exT_call G4_15, ↓exT_callo G4_15, ↓exT_calloG G4_15, ↓exT_call G4_24, ↓exT_callo G4_24, ↓exT_calloG G4_24, ↓exT_call G4_19, ↓exT_callo G4_19, ↓exT_calloG G4_19, ↓exT_call G4_25, ↓exT_callo G4_25, ↓exT_calloG G4_25, ↓exT_call G4_23, ↓exT_callo G4_23, ↓exT_calloG G4_23, ↓exT_call G4_22, ↓exT_callo G4_22, ↓exT_calloG G4_22, hxi, h6, go_sem, Nat.reduceAdd, Nat.reduceSub, Nat.reduceMul, Nat.reduceEqDiff, Nat.reduceLeDiff, Nat.reduceLT, Nat.reduceBEq, Int.reduceLE, Int.reduceLT, Int.reduceToNat, Int.reduceNeg, Int.reduceAdd, Int.reduceSub, Int.reduceMul, ↓reduceIte]
        exact ⟨by omega, x + 1, by omega, by omega, by simp⟩
    · have hxi : ¬ (x : Int) < (l.length : Int) := by omega
      simp (maxSteps := 4000000) only [↓exT_call G4_13, ↓exT_callo G4_13, ↓exT_calloG G4_13, ↓exT_call G4_14, ↓exT_callo G4_14, ↓exT_calloG G4_14, ↓exT_call G4_15, ↓exT_callo G4_15, ↓exT_calloG G4_15, ↓exT_call G4_24, ↓exT_callo G4_24, ↓exT_calloG G4_24, ↓exT_call G4_19, ↓exT_callo G4_19, ↓exT_calloG G4_19, ↓exT_call G4_25, ↓exT_callo G4_25, ↓exT_calloG G4_25, ↓exT_call G4_23, ↓exT_callo G4_23, ↓exT_calloG G4_23, ↓exT_call G4_22, ↓exT_callo G4_22, ↓exT_calloG G4_22, hxi, c1, c2, hll, hal2, go_sem, Nat.reduceAdd, Nat.reduceSub, Nat.reduceMul, Nat.reduceEqDiff, Nat.reduceLeDiff, Nat.reduceLT, Nat.reduceBEq, Int.reduceLE, Int.reduceLT, Int.reduceToNat, Int.reduceNeg, Int.reduceAdd, Int.reduceSub, Int.reduceMul, ↓reduceIte]

end Go.Proofs.Ytniioedflegdkaa
