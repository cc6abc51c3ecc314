/- The statements on revisions, as functions: KeepExact. -/
import Derived.Test.YtniioedflegdkaaR9
import Derived.Test.YtniioedflegdkaaG13
import Derived.Test.YtniioedflegdkaaAb31
set_option linter.all false
namespace Go.Proofs.Ytniioedflegdkaa
open Go Go.Ab Go.Proofs Go.Fs
def kExactG_enc : (List Bs) × (List Wr) × (Bool) × (Bool) × (Bs) → List V := fun ⟨ss, cs, f, g, t⟩ => [.agg [.s (.list 1 (encs strE ss) f), .s (.list 2 (encs wrE cs) g)], .c (.s (.str t))]
theorem kExactG_inj : ∀ x y, kExactG_enc x = kExactG_enc y → x = y := by
  rintro ⟨ss, cs, f, g, t⟩ ⟨ss2, cs2, f2, g2, t2⟩ h
  simp only [kExactG_enc, List.cons.injEq, V.c.injEq, V.agg.injEq, C.s.injEq, S.list.injEq, S.str.injEq, S.int.injEq, S.bool.injEq, S.fn.injEq, S.cref.injEq, strE_inj, true_and, and_true, wrE_inj] at h
  simp_all
noncomputable def kExactG : List V → Option (V) := specE kExactG_enc (fun ⟨ss, cs, f, g, t⟩ => fitC cs.length) (fun ⟨ss, cs, f, g, t⟩ => .c (.s (.bool true)))
theorem kExactG_eq {ss : List Bs} {cs : List Wr} {f : Bool} {g : Bool} {t : Bs} [Decidable (fitC cs.length)] : kExactG [.agg [.s (.list 1 (encs strE ss) f), .s (.list 2 (encs wrE cs) g)], .c (.s (.str t))] = if fitC cs.length then some (.c (.s (.bool true))) else none := specE_eq kExactG_inj (ss, cs, f, g, t)
theorem kExactG_call {ss : List Bs} {cs : List Wr} {f : Bool} {g : Bool} {t : Bs} {gt : Bool} {K : V → Prop} : callE kExactG [.agg [.s (.list 1 (encs strE ss) f), .s (.list 2 (encs wrE cs) g)], .c (.s (.str t))] gt K = ((gt = true → fitC cs.length) ∧ bindV (ifV gt (.c (.s (.bool true)))) K) := by
  have := Classical.propDecidable (fitC cs.length)
  exact callE_of kExactG_eq
theorem kExactG_callo {ss : List Bs} {cs : List Wr} {f : Bool} {g : Bool} {t : Bs} {m : Nat → Option Ab.Obj} {locs : List Nat} {K : V → (Nat → Option Ab.Obj) → Prop} : callO kExactG (some [.agg [.s (.list 1 (encs strE ss) f), .s (.list 2 (encs wrE cs) g)], .c (.s (.str t))]) m locs K = ((fitC cs.length) ∧ K (.c (.s (.bool true))) (sealW m locs (.c (.s (.bool true))))) := by
  have := Classical.propDecidable (fitC cs.length)
  exact callO_of kExactG_eq
attribute [go_sem] kExactG_call kExactG_callo

def sc_law19_KeepExact : SC := .seq (.reg [⟨some 2, .box 2, [.t 0], none⟩,
⟨some 4, .mv, [.k (.c (.s (.bool false)))], none⟩]) (.seq (.reg [⟨some 20, .load 2 true, [.t 2], none⟩,
⟨some 21, .call 13, [.t 20], none⟩,
⟨some 5, .alloc [.list 0 [] true, .list 0 [] true], [], none⟩,
⟨none, .store 2 true, [.t 5, .t 21], none⟩]) (.seq (.seq (.reg [⟨some 22, .load 2 true, [.t 5], none⟩,
⟨some 23, .call 14, [.t 22], none⟩,
⟨some 24, .not, [.t 23], none⟩,
⟨some 25, .mv, [.t 24], none⟩,
⟨some 26, .mv, [.t 1], some (25, false)⟩,
⟨some 27, .len true, [.t 26], some (25, false)⟩,
⟨some 28, .bin .gtr, [.t 27, .k (.c (.s (.int .i64 1500)))], some (25, false)⟩,
⟨some 29, .pick, [.t 25, .k (.c (.s (.bool true))), .t 28], none⟩]) (.cond (.t 29) (.seq (.reg [⟨some 30, .call 30, [], none⟩,
⟨some 4, .mv, [.t 30], none⟩]) (.ret)) (.skip))) (.seq (.reg [⟨some 32, .load 2 true, [.t 2], none⟩,
⟨some 33, .call 31, [.t 32], none⟩,
⟨some 31, .mv, [.t 33], none⟩,
⟨some 34, .ext 0, [.t 31], none⟩,
⟨some 35, .ext 1, [.t 31], none⟩,
⟨some 6, .mv, [.t 34], none⟩,
⟨some 7, .mv, [.t 35], none⟩]) (.seq (.reg [⟨some 37, .load 2 true, [.t 5], none⟩,
⟨some 38, .call 17, [.t 37], none⟩,
⟨some 36, .mv, [.t 38], none⟩,
⟨some 39, .ext 0, [.t 36], none⟩,
⟨some 40, .ext 1, [.t 36], none⟩,
⟨some 8, .alloc [.int .i64 0, .list 0 [] true, .int .i64 0], [], none⟩,
⟨none, .store 3 true, [.t 8, .t 39], none⟩,
⟨some 9, .mv, [.t 40], none⟩]) (.seq (.seq (.regD [⟨some 41, .mv, [.t 7], none⟩,
⟨some 42, .mv, [.t 9], none⟩,
⟨some 43, .bin .neq, [.t 41, .t 42], none⟩,
⟨some 44, .mv, [.t 43], none⟩,
⟨some 45, .mv, [.t 6], some (44, false)⟩,
⟨some 46, .call 19, [.t 45], some (44, false)⟩,
⟨some 47, .fadr 1, [.t 8], some (44, false)⟩,
⟨some 48, .load 1 false, [.t 47], some (44, false)⟩,
⟨some 49, .call 32, [.t 48, .k (.c (.s (.int .i64 5)))], some (44, false)⟩,
⟨some 50, .call 18, [.t 46, .t 49], some (44, false)⟩,
⟨some 51, .not, [.t 50], some (44, false)⟩,
⟨some 52, .pick, [.t 44, .k (.c (.s (.bool true))), .t 51], none⟩] [(5, 6), (5, 7)]) (.cond (.t 52) (.seq (.reg [⟨some 4, .mv, [.k (.c (.s (.bool false)))], none⟩]) (.ret)) (.skip))) (.seq (.reg [⟨some 54, .load 2 true, [.t 2], none⟩,
⟨some 55, .mv, [.t 1], none⟩,
⟨some 56, .call 33, [.t 54, .t 55], none⟩,
⟨some 53, .mv, [.t 56], none⟩,
⟨some 57, .ext 0, [.t 53], none⟩,
⟨some 58, .ext 1, [.t 53], none⟩,
⟨some 59, .ext 2, [.t 53], none⟩,
⟨some 10, .mv, [.t 57], none⟩,
⟨some 11, .mv, [.t 58], none⟩,
⟨some 12, .mv, [.t 59], none⟩]) (.seq (.reg [⟨some 61, .load 2 true, [.t 5], none⟩,
⟨some 62, .mv, [.t 1], none⟩,
⟨some 63, .call 34, [.t 61, .t 62], none⟩,
⟨some 60, .mv, [.t 63], none⟩,
⟨some 64, .ext 0, [.t 60], none⟩,
⟨some 65, .ext 1, [.t 60], none⟩,
⟨some 66, .ext 2, [.t 60], none⟩,
⟨some 13, .mv, [.t 64], none⟩,
⟨some 14, .mv, [.t 65], none⟩,
⟨some 15, .mv, [.t 66], none⟩]) (.seq (.reg [⟨some 68, .load 2 true, [.t 2], none⟩,
⟨some 69, .mv, [.t 1], none⟩,
⟨some 70, .call 35, [.t 68, .t 69], none⟩,
⟨some 67, .mv, [.t 70], none⟩,
⟨some 71, .ext 0, [.t 67], none⟩,
⟨some 72, .ext 1, [.t 67], none⟩,
⟨some 73, .ext 2, [.t 67], none⟩,
⟨some 16, .alloc [.list 0 [] true, .list 0 [] true], [], none⟩,
⟨none, .store 2 true, [.t 16, .t 71], none⟩,
⟨some 17, .mv, [.t 72], none⟩,
⟨some 18, .mv, [.t 73], none⟩]) (.seq (.reg [⟨some 74, .load 2 true, [.t 5], none⟩,
⟨some 19, .alloc [.list 0 [] true, .list 0 [] true], [], none⟩,
⟨none, .store 2 true, [.t 19, .t 74], none⟩]) (.seq (.seq (.reg [⟨some 75, .mv, [.t 15], none⟩,
⟨some 76, .bin .eql, [.t 75, .k (.c (.s (.int .i64 0)))], none⟩]) (.cond (.t 76) (.reg [⟨some 77, .load 2 true, [.t 5], none⟩,
⟨some 78, .mv, [.t 13], none⟩,
⟨some 79, .mv, [.t 13], none⟩,
⟨some 80, .len false, [.t 79], none⟩,
⟨some 81, .call 36, [.t 77, .t 78, .t 80], none⟩,
⟨none, .store 2 true, [.t 19, .t 81], none⟩]) (.skip))) (.seq (.regD [⟨some 82, .mv, [.t 10], none⟩,
⟨some 83, .call 37, [.t 82], none⟩,
⟨some 84, .mv, [.t 13], none⟩,
⟨some 85, .call 22, [.t 83, .t 84], none⟩,
⟨some 86, .mv, [.t 85], none⟩,
⟨some 87, .mv, [.t 11], some (86, true)⟩,
⟨some 88, .mv, [.t 14], some (86, true)⟩,
⟨some 89, .bin .eql, [.t 87, .t 88], some (86, true)⟩,
⟨some 90, .pick, [.t 86, .t 89, .k (.c (.s (.bool false)))], none⟩,
⟨some 91, .mv, [.t 90], none⟩,
⟨some 92, .mv, [.t 12], some (91, true)⟩,
⟨some 93, .mv, [.t 15], some (91, true)⟩,
⟨some 94, .bin .eql, [.t 92, .t 93], some (91, true)⟩,
⟨some 95, .pick, [.t 91, .t 94, .k (.c (.s (.bool false)))], none⟩,
⟨some 96, .mv, [.t 95], none⟩,
⟨some 97, .load 2 true, [.t 16], some (96, true)⟩,
⟨some 98, .call 13, [.t 97], some (96, true)⟩,
⟨some 99, .load 2 true, [.t 19], some (96, true)⟩,
⟨some 100, .call 38, [.t 98, .t 99], some (96, true)⟩,
⟨some 101, .pick, [.t 96, .t 100, .k (.c (.s (.bool false)))], none⟩,
⟨some 102, .mv, [.t 101], none⟩,
⟨some 103, .mv, [.t 17], some (102, true)⟩,
⟨some 104, .mv, [.t 14], some (102, true)⟩,
⟨some 105, .bin .eql, [.t 103, .t 104], some (102, true)⟩,
⟨some 106, .pick, [.t 102, .t 105, .k (.c (.s (.bool false)))], none⟩,
⟨some 107, .mv, [.t 106], none⟩,
⟨some 108, .mv, [.t 18], some (107, true)⟩,
⟨some 109, .mv, [.t 15], some (107, true)⟩,
⟨some 110, .bin .eql, [.t 108, .t 109], some (107, true)⟩,
⟨some 111, .pick, [.t 107, .t 110, .k (.c (.s (.bool false)))], none⟩,
⟨some 112, .mv, [.t 111], none⟩,
⟨some 113, .call 30, [], some (112, true)⟩,
⟨some 114, .pick, [.t 112, .t 113, .k (.c (.s (.bool false)))], none⟩,
⟨some 4, .mv, [.t 114], none⟩] [(16, 17)]) (.ret))))))))))))
noncomputable def G_law19_KeepExact : FuncId → Ab.Spec := addS (addS (addS (addS (addS (addS (addS (addS (addS (addS (addS (addS (addS (addS (addS (noS) 13 (plain refG)) 14 (plain smallG)) 30 (plain awakeKG)) 31 (plain histG)) 17 (plain rScanG)) 19 (plain refsRG)) 32 (fresh NewestG)) 18 (plain sameLG)) 33 (plain pushG)) 34 (plain rPushG)) 35 (plain saveG)) 36 (plain rRunG)) 37 (plain opsRG)) 22 (plain sameOG)) 38 (plain sameRG)
theorem G_law19_KeepExact_ok : ∀ f, Contract Try.prog f (G_law19_KeepExact f) := (addS_ok (addS_ok (addS_ok (addS_ok (addS_ok (addS_ok (addS_ok (addS_ok (addS_ok (addS_ok (addS_ok (addS_ok (addS_ok (addS_ok (addS_ok (noS_ok _) contract_law17_Ref) contract_ref17_Small) contract_law19_awake) contract_keep_History) contract_ref18_Scan) contract_law18_Refs) contract_ref19_Newest) contract_ref18_Records) contract_keep_Push) contract_ref19_Push) contract_keep_Save) contract_ref17_Run) contract_law19_ops) contract_ref18_Same) contract_ref17_Same)
theorem G8_13 : G_law19_KeepExact 13 = plain refG := by simp [G_law19_KeepExact, addS]
theorem G8_14 : G_law19_KeepExact 14 = plain smallG := by simp [G_law19_KeepExact, addS]
theorem G8_30 : G_law19_KeepExact 30 = plain awakeKG := by simp [G_law19_KeepExact, addS]
theorem G8_31 : G_law19_KeepExact 31 = plain histG := by simp [G_law19_KeepExact, addS]
theorem G8_17 : G_law19_KeepExact 17 = plain rScanG := by simp [G_law19_KeepExact, addS]
theorem G8_19 : G_law19_KeepExact 19 = plain refsRG := by simp [G_law19_KeepExact, addS]
theorem G8_32 : G_law19_KeepExact 32 = fresh NewestG := by simp [G_law19_KeepExact, addS]
theorem G8_18 : G_law19_KeepExact 18 = plain sameLG := by simp [G_law19_KeepExact, addS]
theorem G8_33 : G_law19_KeepExact 33 = plain pushG := by simp [G_law19_KeepExact, addS]
theorem G8_34 : G_law19_KeepExact 34 = plain rPushG := by simp [G_law19_KeepExact, addS]
theorem G8_35 : G_law19_KeepExact 35 = plain saveG := by simp [G_law19_KeepExact, addS]
theorem G8_36 : G_law19_KeepExact 36 = plain rRunG := by simp [G_law19_KeepExact, addS]
theorem G8_37 : G_law19_KeepExact 37 = plain opsRG := by simp [G_law19_KeepExact, addS]
theorem G8_22 : G_law19_KeepExact 22 = plain sameOG := by simp [G_law19_KeepExact, addS]
theorem G8_38 : G_law19_KeepExact 38 = plain sameRG := by simp [G_law19_KeepExact, addS]
set_option maxHeartbeats 16000000 in
set_option maxRecDepth 1000000 in
set_option linter.unusedSimpArgs false in
set_option linter.unusedVariables false in
theorem contract_law19_KeepExact : Contract Try.prog 8 (plain kExactG) := by
  have hb : ∃ c, Try.f8.body = some c ∧ codeOk 115 c = true ∧ cCode Try.prog c = sc_law19_KeepExact := ⟨_, rfl, by kernel_rfl, by kernel_rfl⟩
  obtain ⟨c, hb1, hb2, hb3⟩ := hb
  refine contract_of (n := 2) G_law19_KeepExact_ok hB hD Try.func8 hb1 (by kernel_rfl) hb2 hb3 (rs := [.tmp 4]) (by kernel_rfl) (by decide) ?_ ?_
  · intro args x h
    obtain ⟨y, hy, -⟩ := Option.map_eq_some_iff.1 h
    obtain ⟨⟨ss, cs, f, g, t⟩, rfl, -⟩ := specE_some hy
    rfl
  · intro args r hr
    obtain ⟨y, hy, rfl⟩ := Option.map_eq_some_iff.1 hr
    obtain ⟨⟨ss, cs, f, g, t⟩, rfl, hc, rfl⟩ := specE_some hy
    clear hr hy
    have hc : fitC cs.length := hc
    change awp _ _ (postQ _ (.v (.c (.s (.bool true))))) _
    unfold kExactG_enc sc_law19_KeepExact
    have hfc := hc
    cases hsm9 : smallD ⟨ss, cs⟩ with
    | false => simp +contextual (maxSteps := 4000000) only [↓exT_call G8_13, ↓exT_callo G8_13, ↓exT_calloG G8_13, ↓exT_call G8_14, ↓exT_callo G8_14, ↓exT_calloG G8_14, ↓exT_call G8_30, ↓exT_callo G8_30, ↓exT_calloG G8_30, ↓exT_call G8_31, ↓exT_callo G8_31, ↓exT_calloG G8_31, ↓exT_call G8_17, ↓exT_callo G8_17, ↓exT_calloG G8_17, ↓exT_call G8_19, ↓exT_callo G8_19, ↓exT_calloG G8_19, ↓exT_callf G8_32, ↓exT_call G8_18, ↓exT_callo G8_18, ↓exT_calloG G8_18, ↓exT_call G8_33, ↓exT_callo G8_33, ↓exT_calloG G8_33, ↓exT_call G8_34, ↓exT_callo G8_34, ↓exT_calloG G8_34, ↓exT_call G8_35, ↓exT_callo G8_35, ↓exT_calloG G8_35, ↓exT_call G8_36, ↓exT_callo G8_36, ↓exT_calloG G8_36, ↓exT_call G8_37, ↓exT_callo G8_37, ↓exT_calloG G8_37, ↓exT_call G8_22, ↓exT_callo G8_22, ↓exT_calloG G8_22, ↓exT_call G8_38, ↓exT_callo G8_38, ↓exT_calloG G8_38, hfc, hsm9, go_sem, Nat.reduceAdd, Nat.reduceSub, Nat.reduceMul, Nat.reduceEqDiff, Nat.reduceLeDiff, Nat.reduceLT, Nat.reduceBEq, Int.reduceLE, Int.reduceLT, Int.reduceToNat, Int.reduceNeg, Int.reduceAdd, Int.reduceSub, Int.reduceMul, ↓reduceIte]
    | true =>
    obtain ⟨c1, c2⟩ := small_4 hsm9
    have hrl := recs_len ⟨ss, cs⟩
    have hpl := push_len ⟨ss, cs⟩ t
    obtain ⟨hh1, hh2⟩ := hist_scan ⟨ss, cs⟩
    have hsd : saveD ⟨ss, cs⟩ t = if (pushD ⟨ss, cs⟩ t).2.2 ≠ 0 then (⟨ss, cs⟩, 0, (pushD ⟨ss, cs⟩ t).2.2) else (runD ⟨ss, cs⟩ (pushD ⟨ss, cs⟩ t).1, (pushD ⟨ss, cs⟩ t).2.1, 0) := rfl
    have her := push_err (d := ⟨ss, cs⟩) (t := t)
    have h5 : (5 : Int).toNat = 5 := rfl
    by_cases hsm : smallD ⟨ss, cs⟩ = true
    case neg =>
      have hsm' : smallD ⟨ss, cs⟩ = false := by simpa using hsm
      simp (maxSteps := 4000000) only [↓exT_call G8_13, ↓exT_callo G8_13, ↓exT_calloG G8_13, ↓exT_call G8_14, ↓exT_callo G8_14, ↓exT_calloG G8_14, ↓exT_call G8_30, ↓exT_callo G8_30, ↓exT_calloG G8_30, ↓exT_call G8_31, ↓exT_callo G8_31, ↓exT_calloG G8_31, ↓exT_call G8_17, ↓exT_callo G8_17, ↓exT_calloG G8_17, ↓exT_call G8_19, ↓exT_callo G8_19, ↓exT_calloG G8_19, ↓exT_callf G8_32, ↓exT_call G8_18, ↓exT_callo G8_18, ↓exT_calloG G8_18, ↓exT_call G8_33, ↓exT_callo G8_33, ↓exT_calloG G8_33, ↓exT_call G8_34, ↓exT_callo G8_34, ↓exT_calloG G8_34, ↓exT_call G8_35, ↓exT_callo G8_35, ↓exT_calloG G8_35, ↓exT_call G8_36, ↓exT_callo G8_36, ↓exT_calloG G8_36, ↓exT_call G8_37, ↓exT_callo G8_37, ↓exT_calloG G8_37, ↓exT_call G8_22, ↓exT_callo G8_22, ↓exT_calloG G8_22, ↓exT_call G8_38, ↓exT_callo G8_38, ↓exT_calloG G8_38, c1, c2, hsm', go_sem, Nat.reduceAdd, Nat.reduceSub, Nat.reduceMul, Nat.reduceEqDiff, Nat.reduceLeDiff, Nat.reduceLT, Nat.reduceBEq, Int.reduceLE, Int.reduceLT, Int.reduceToNat, Int.reduceNeg, Int.reduceAdd, Int.reduceSub, Int.reduceMul, ↓reduceIte]
    by_cases htl : 1500 < (t.length : Int)
    case pos =>
      simp (maxSteps := 4000000) only [↓exT_call G8_13, ↓exT_callo G8_13, ↓exT_calloG G8_13, ↓exT_call G8_14, ↓exT_callo G8_14, ↓exT_calloG G8_14, ↓exT_call G8_30, ↓exT_callo G8_30, ↓exT_calloG G8_30, ↓exT_call G8_31, ↓exT_callo G8_31, ↓exT_calloG G8_31, ↓exT_call G8_17, ↓exT_callo G8_17, ↓exT_calloG G8_17, ↓exT_call G8_19, ↓exT_callo G8_19, ↓exT_calloG G8_19, ↓exT_callf G8_32, ↓exT_call G8_18, ↓exT_callo G8_18, ↓exT_calloG G8_18, ↓exT_call G8_33, ↓exT_callo G8_33, ↓exT_calloG G8_33, ↓exT_call G8_34, ↓exT_callo G8_34, ↓exT_calloG G8_34, ↓exT_call G8_35, ↓exT_callo G8_35, ↓exT_calloG G8_35, ↓exT_call G8_36, ↓exT_callo G8_36, ↓exT_calloG G8_36, ↓exT_call G8_37, ↓exT_callo G8_37, ↓exT_calloG G8_37, ↓exT_call G8_22, ↓exT_callo G8_22, ↓exT_calloG G8_22, ↓exT_call G8_38, ↓exT_callo G8_38, ↓exT_calloG G8_38, c1, c2, hsm, htl, go_sem, Nat.reduceAdd, Nat.reduceSub, Nat.reduceMul, Nat.reduceEqDiff, Nat.reduceLeDiff, Nat.reduceLT, Nat.reduceBEq, Int.reduceLE, Int.reduceLT, Int.reduceToNat, Int.reduceNeg, Int.reduceAdd, Int.reduceSub, Int.reduceMul, ↓reduceIte]
    have hnl := newest_len (scanD ⟨ss, cs⟩).1.recs 5
    have hru : runN ⟨ss, cs⟩ (pushD ⟨ss, cs⟩ t).1 ((pushD ⟨ss, cs⟩ t).1.length : Int) = runD ⟨ss, cs⟩ (pushD ⟨ss, cs⟩ t).1 := run_lenN
    have hrn := run_len (pushD ⟨ss, cs⟩ t).1 ⟨ss, cs⟩
    generalize hHD : histD ⟨ss, cs⟩ = HD at *
    generalize hPD : pushD ⟨ss, cs⟩ t = PD at *
    have hPl : PD.1.length < 4000000 := by omega
    generalize hRN : runD ⟨ss, cs⟩ PD.1 = RN at *
    simp only at hrn
    have r1 : RN.sectors.length < 4000000 := by omega
    have r2 : RN.cache.length < 4000000 := by omega
    generalize hNW : newestL (scanD ⟨ss, cs⟩).1.recs 5 = NW at *
    have hNl : NW.length < 4000000 := by omega
    by_cases he : PD.2.2 = 0
    · rw [if_neg (by simp [he])] at hsd
      simp (maxSteps := 4000000) only [↓exT_call G8_13, ↓exT_callo G8_13, ↓exT_calloG G8_13, ↓exT_call G8_14, ↓exT_callo G8_14, ↓exT_calloG G8_14, ↓exT_call G8_30, ↓exT_callo G8_30, ↓exT_calloG G8_30, ↓exT_call G8_31, ↓exT_callo G8_31, ↓exT_calloG G8_31, ↓exT_call G8_17, ↓exT_callo G8_17, ↓exT_calloG G8_17, ↓exT_call G8_19, ↓exT_callo G8_19, ↓exT_calloG G8_19, ↓exT_callf G8_32, ↓exT_call G8_18, ↓exT_callo G8_18, ↓exT_calloG G8_18, ↓exT_call G8_33, ↓exT_callo G8_33, ↓exT_calloG G8_33, ↓exT_call G8_34, ↓exT_callo G8_34, ↓exT_calloG G8_34, ↓exT_call G8_35, ↓exT_callo G8_35, ↓exT_calloG G8_35, ↓exT_call G8_36, ↓exT_callo G8_36, ↓exT_calloG G8_36, ↓exT_call G8_37, ↓exT_callo G8_37, ↓exT_calloG G8_37, ↓exT_call G8_22, ↓exT_callo G8_22, ↓exT_calloG G8_22, ↓exT_call G8_38, ↓exT_callo G8_38, ↓exT_calloG G8_38, ↓exT_callfG G8_32, c1, c2, hsm, htl, hrl, hHD, hPD, hPl, hsd, hru, hRN, r1, r2, hNW, hNl, he, hh1, hh2, h5, go_sem, Nat.reduceAdd, Nat.reduceSub, Nat.reduceMul, Nat.reduceEqDiff, Nat.reduceLeDiff, Nat.reduceLT, Nat.reduceBEq, Int.reduceLE, Int.reduceLT, Int.reduceToNat, Int.reduceNeg, Int.reduceAdd, Int.reduceSub, Int.reduceMul, ↓reduceIte]
    · rw [if_pos he] at hsd
      have h0 := her he
      simp (maxSteps := 4000000) only [↓exT_call G8_13, ↓exT_callo G8_13, ↓exT_calloG G8_13, ↓exT_call G8_14, ↓exT_callo G8_14, ↓exT_calloG G8_14, ↓exT_call G8_30, ↓exT_callo G8_30, ↓exT_calloG G8_30, ↓exT_call G8_31, ↓exT_callo G8_31, ↓exT_calloG G8_31, ↓exT_call G8_17, ↓exT_callo G8_17, ↓exT_calloG G8_17, ↓exT_call G8_19, ↓exT_callo G8_19, ↓exT_calloG G8_19, ↓exT_callf G8_32, ↓exT_call G8_18, ↓exT_callo G8_18, ↓exT_calloG G8_18, ↓exT_call G8_33, ↓exT_callo G8_33, ↓exT_calloG G8_33, ↓exT_call G8_34, ↓exT_callo G8_34, ↓exT_calloG G8_34, ↓exT_call G8_35, ↓exT_callo G8_35, ↓exT_calloG G8_35, ↓exT_call G8_36, ↓exT_callo G8_36, ↓exT_calloG G8_36, ↓exT_call G8_37, ↓exT_callo G8_37, ↓exT_calloG G8_37, ↓exT_call G8_22, ↓exT_callo G8_22, ↓exT_calloG G8_22, ↓exT_call G8_38, ↓exT_callo G8_38, ↓exT_calloG G8_38, ↓exT_callfG G8_32, c1, c2, hsm, htl, hrl, hHD, hPD, hPl, hsd, hNW, hNl, he, h0, hh1, hh2, h5, go_sem, Nat.reduceAdd, Nat.reduceSub, Nat.reduceMul, Nat.reduceEqDiff, Nat.reduceLeDiff, Nat.reduceLT, Nat.reduceBEq, Int.reduceLE, Int.reduceLT, Int.reduceToNat, Int.reduceNeg, Int.reduceAdd, Int.reduceSub, Int.reduceMul, ↓reduceIte]

end Go.Proofs.Ytniioedflegdkaa
