/- The statements on the log, as functions: LogSteps. -/
import Derived.Test.YtniioedflegdkaaGB
set_option linter.all false
namespace Go.Proofs.Ytniioedflegdkaa
open Go Go.Ab Go.Proofs Go.Fs
def lStepsG_enc : (Int) × (List Bs) × (Bool) × (Bool) → List V := fun ⟨a, tx, f, rn⟩ => [.c (.s (.int .u8 a)), .c (.s (.list 1 (encs strE tx) f)), .c (.s (.bool rn))]
theorem lStepsG_inj : ∀ x y, lStepsG_enc x = lStepsG_enc y → x = y := by
  rintro ⟨a, tx, f, rn⟩ ⟨a2, tx2, f2, rn2⟩ h
  simp only [lStepsG_enc, List.cons.injEq, V.c.injEq, V.agg.injEq, C.s.injEq, S.list.injEq, S.str.injEq, S.int.injEq, S.bool.injEq, S.fn.injEq, S.cref.injEq, strE_inj, true_and, and_true] at h
  simp_all
noncomputable def lStepsG : List V → Option (V) := specE lStepsG_enc (fun ⟨a, tx, f, rn⟩ => 0 ≤ a ∧ a < 256) (fun ⟨a, tx, f, rn⟩ => .c (.s (.bool true)))
theorem lStepsG_eq {a : Int} {tx : List Bs} {f : Bool} {rn : Bool} [Decidable (0 ≤ a ∧ a < 256)] : lStepsG [.c (.s (.int .u8 a)), .c (.s (.list 1 (encs strE tx) f)), .c (.s (.bool rn))] = if 0 ≤ a ∧ a < 256 then some (.c (.s (.bool true))) else none := specE_eq lStepsG_inj (a, tx, f, rn)
theorem lStepsG_call {a : Int} {tx : List Bs} {f : Bool} {rn : Bool} {gt : Bool} {K : V → Prop} : callE lStepsG [.c (.s (.int .u8 a)), .c (.s (.list 1 (encs strE tx) f)), .c (.s (.bool rn))] gt K = ((gt = true → 0 ≤ a ∧ a < 256) ∧ bindV (ifV gt (.c (.s (.bool true)))) K) := by
  have := Classical.propDecidable (0 ≤ a ∧ a < 256)
  exact callE_of lStepsG_eq
theorem lStepsG_callo {a : Int} {tx : List Bs} {f : Bool} {rn : Bool} {m : Nat → Option Ab.Obj} {locs : List Nat} {K : V → (Nat → Option Ab.Obj) → Prop} : callO lStepsG (some [.c (.s (.int .u8 a)), .c (.s (.list 1 (encs strE tx) f)), .c (.s (.bool rn))]) m locs K = ((0 ≤ a ∧ a < 256) ∧ K (.c (.s (.bool true))) (sealW m locs (.c (.s (.bool true))))) := by
  have := Classical.propDecidable (0 ≤ a ∧ a < 256)
  exact callO_of lStepsG_eq
attribute [go_sem] lStepsG_call lStepsG_callo

def sc_law18_LogSteps : SC := .seq (.reg [⟨some 6, .mv, [.k (.c (.s (.bool false)))], none⟩]) (.seq (.reg [⟨some 18, .mv, [.t 0], none⟩,
⟨some 19, .bin .rem, [.t 18, .k (.c (.s (.int .u8 52)))], none⟩,
⟨some 20, .conv .i64, [.t 19], none⟩,
⟨some 21, .bin .add, [.k (.c (.s (.int .i64 9))), .t 20], none⟩,
⟨some 22, .call 26, [.t 21], none⟩,
⟨some 17, .mv, [.t 22], none⟩,
⟨some 23, .ext 0, [.t 17], none⟩,
⟨some 24, .ext 1, [.t 17], none⟩,
⟨some 7, .alloc [.list 0 [] true, .list 0 [] true], [], none⟩,
⟨none, .store 2 true, [.t 7, .t 23], none⟩,
⟨some 8, .mv, [.t 24], none⟩]) (.seq (.seq (.reg [⟨some 25, .mv, [.t 8], none⟩,
⟨some 26, .bin .neq, [.t 25, .k (.c (.s (.int .i64 0)))], none⟩]) (.cond (.t 26) (.seq (.reg [⟨some 6, .mv, [.k (.c (.s (.bool false)))], none⟩]) (.ret)) (.skip))) (.seq (.seq (.reg [⟨some 9, .mv, [.k (.c (.s (.int .i64 0)))], none⟩]) (.block 0 (.loop (.seq (.seq (.reg [⟨some 27, .mv, [.t 9], none⟩,
⟨some 28, .mv, [.t 1], none⟩,
⟨some 29, .len false, [.t 28], none⟩,
⟨some 30, .bin .lss, [.t 27, .t 29], none⟩,
⟨some 31, .mv, [.t 30], none⟩,
⟨some 32, .mv, [.t 9], some (31, true)⟩,
⟨some 33, .bin .lss, [.t 32, .k (.c (.s (.int .i64 12)))], some (31, true)⟩,
⟨some 34, .pick, [.t 31, .t 33, .k (.c (.s (.bool false)))], none⟩]) (.cond (.t 34) (.skip) (.exit 0))) (.seq (.block 1 (.seq (.seq (.reg [⟨some 37, .mv, [.t 1], none⟩,
⟨some 38, .mv, [.t 9], none⟩,
⟨some 39, .iadr 1, [.t 37, .t 38], none⟩,
⟨some 40, .load 1 false, [.t 39], none⟩,
⟨some 41, .len true, [.t 40], none⟩,
⟨some 42, .bin .gtr, [.t 41, .k (.c (.s (.int .i64 200)))], none⟩]) (.cond (.t 42) (.seq (.reg [⟨some 43, .call 15, [], none⟩,
⟨some 6, .mv, [.t 43], none⟩]) (.ret)) (.skip))) (.seq (.reg [⟨some 45, .load 2 true, [.t 7], none⟩,
⟨some 46, .call 16, [.t 45], none⟩,
⟨some 44, .mv, [.t 46], none⟩,
⟨some 47, .ext 0, [.t 44], none⟩,
⟨some 48, .ext 1, [.t 44], none⟩,
⟨some 10, .alloc [.int .i64 0, .list 0 [] true, .int .i64 0], [], none⟩,
⟨none, .store 3 true, [.t 10, .t 47], none⟩,
⟨some 11, .mv, [.t 48], none⟩]) (.seq (.regD [⟨some 50, .load 2 true, [.t 7], none⟩,
⟨some 51, .mv, [.t 1], none⟩,
⟨some 52, .mv, [.t 9], none⟩,
⟨some 53, .iadr 1, [.t 51, .t 52], none⟩,
⟨some 54, .load 1 false, [.t 53], none⟩,
⟨some 55, .call 20, [.t 50, .t 54], none⟩,
⟨some 49, .mv, [.t 55], none⟩,
⟨some 56, .ext 0, [.t 49], none⟩,
⟨some 57, .ext 1, [.t 49], none⟩,
⟨some 12, .mv, [.t 56], none⟩,
⟨some 13, .mv, [.t 57], none⟩] []) (.seq (.seq (.reg [⟨some 58, .mv, [.t 2], none⟩,
⟨some 59, .mv, [.t 58], none⟩,
⟨some 60, .mv, [.t 9], some (59, true)⟩,
⟨some 61, .bin .rem, [.t 60, .k (.c (.s (.int .i64 3)))], some (59, true)⟩,
⟨some 62, .bin .eql, [.t 61, .k (.c (.s (.int .i64 2)))], some (59, true)⟩,
⟨some 63, .pick, [.t 59, .t 62, .k (.c (.s (.bool false)))], none⟩,
⟨some 64, .mv, [.t 63], none⟩,
⟨some 65, .fadr 1, [.t 10], some (64, true)⟩,
⟨some 66, .load 1 false, [.t 65], some (64, true)⟩,
⟨some 67, .len false, [.t 66], some (64, true)⟩,
⟨some 68, .bin .gtr, [.t 67, .k (.c (.s (.int .i64 0)))], some (64, true)⟩,
⟨some 69, .pick, [.t 64, .t 68, .k (.c (.s (.bool false)))], none⟩]) (.cond (.t 69) (.regD [⟨some 71, .load 2 true, [.t 7], none⟩,
⟨some 72, .fadr 1, [.t 10], none⟩,
⟨some 73, .load 1 false, [.t 72], none⟩,
⟨some 74, .fadr 1, [.t 10], none⟩,
⟨some 75, .load 1 false, [.t 74], none⟩,
⟨some 76, .len false, [.t 75], none⟩,
⟨some 77, .bin .quo, [.t 76, .k (.c (.s (.int .i64 2)))], none⟩,
⟨some 78, .slcL 2 true false false, [.t 73, .t 77], none⟩,
⟨some 79, .call 24, [.t 71, .t 78], none⟩,
⟨some 70, .mv, [.t 79], none⟩,
⟨some 80, .ext 0, [.t 70], none⟩,
⟨some 81, .ext 1, [.t 70], none⟩,
⟨some 12, .mv, [.t 80], none⟩,
⟨some 13, .mv, [.t 81], none⟩] []) (.skip))) (.seq (.seq (.reg [⟨some 82, .mv, [.t 11], none⟩,
⟨some 83, .bin .neq, [.t 82, .k (.c (.s (.int .i64 0)))], none⟩,
⟨some 84, .mv, [.t 83], none⟩,
⟨some 85, .mv, [.t 13], some (84, false)⟩,
⟨some 86, .bin .neq, [.t 85, .k (.c (.s (.int .i64 0)))], some (84, false)⟩,
⟨some 87, .mv, [.t 86], some (84, false)⟩,
⟨some 88, .mv, [.t 13], some (87, true)⟩,
⟨some 89, .bin .neq, [.t 88, .k (.c (.s (.int .i64 10)))], some (87, true)⟩,
⟨some 90, .pick, [.t 87, .t 89, .k (.c (.s (.bool false)))], some (84, false)⟩,
⟨some 91, .pick, [.t 84, .k (.c (.s (.bool true))), .t 90], none⟩]) (.cond (.t 91) (.seq (.reg [⟨some 6, .mv, [.k (.c (.s (.bool false)))], none⟩]) (.ret)) (.skip))) (.seq (.seq (.reg [⟨some 92, .mv, [.t 13], none⟩,
⟨some 93, .bin .eql, [.t 92, .k (.c (.s (.int .i64 10)))], none⟩]) (.cond (.t 93) (.exit 1) (.skip))) (.seq (.seq (.reg [⟨some 94, .mv, [.t 12], none⟩,
⟨some 95, .len false, [.t 94], none⟩,
⟨some 96, .mv, [.k (.c (.s (.int .i64 0)))], none⟩]) (.block 2 (.loop (.seq (.reg [⟨some 97, .bin .lss, [.t 96, .t 95], none⟩]) (.seq (.cond (.t 97) (.skip) (.exit 2)) (.seq (.block 3 (.seq (.reg [⟨some 98, .mv, [.t 96], none⟩,
⟨some 14, .mv, [.t 98], none⟩]) (.seq (.reg [⟨some 100, .load 2 true, [.t 7], none⟩,
⟨some 101, .mv, [.t 12], none⟩,
⟨some 102, .mv, [.t 14], none⟩,
⟨some 103, .call 27, [.t 100, .t 101, .t 102], none⟩,
⟨some 104, .call 16, [.t 103], none⟩,
⟨some 99, .mv, [.t 104], none⟩,
⟨some 105, .ext 0, [.t 99], none⟩,
⟨some 106, .ext 1, [.t 99], none⟩,
⟨some 15, .alloc [.int .i64 0, .list 0 [] true, .int .i64 0], [], none⟩,
⟨none, .store 3 true, [.t 15, .t 105], none⟩,
⟨some 16, .mv, [.t 106], none⟩]) (.seq (.regD [⟨some 107, .mv, [.t 16], none⟩,
⟨some 108, .bin .neq, [.t 107, .k (.c (.s (.int .i64 0)))], none⟩,
⟨some 109, .mv, [.t 108], none⟩,
⟨some 110, .mv, [.t 14], some (109, false)⟩,
⟨some 111, .mv, [.t 12], some (109, false)⟩,
⟨some 112, .len false, [.t 111], some (109, false)⟩,
⟨some 113, .bin .sub, [.t 112, .k (.c (.s (.int .i64 1)))], some (109, false)⟩,
⟨some 114, .bin .lss, [.t 110, .t 113], some (109, false)⟩,
⟨some 115, .mv, [.t 114], some (109, false)⟩,
⟨some 116, .fadr 0, [.t 15], some (115, true)⟩,
⟨some 117, .load 1 false, [.t 116], some (115, true)⟩,
⟨some 118, .fadr 0, [.t 10], some (115, true)⟩,
⟨some 119, .load 1 false, [.t 118], some (115, true)⟩,
⟨some 120, .bin .neq, [.t 117, .t 119], some (115, true)⟩,
⟨some 121, .mv, [.t 120], some (115, true)⟩,
⟨some 122, .fadr 1, [.t 15], some (121, false)⟩,
⟨some 123, .load 1 false, [.t 122], some (121, false)⟩,
⟨some 124, .call 19, [.t 123], some (121, false)⟩,
⟨some 125, .fadr 1, [.t 10], some (121, false)⟩,
⟨some 126, .load 1 false, [.t 125], some (121, false)⟩,
⟨some 127, .call 19, [.t 126], some (121, false)⟩,
⟨some 128, .call 18, [.t 124, .t 127], some (121, false)⟩,
⟨some 129, .not, [.t 128], some (121, false)⟩,
⟨some 130, .pick, [.t 121, .k (.c (.s (.bool true))), .t 129], some (115, true)⟩,
⟨some 131, .pick, [.t 115, .t 130, .k (.c (.s (.bool false)))], some (109, false)⟩,
⟨some 132, .pick, [.t 109, .k (.c (.s (.bool true))), .t 131], none⟩] [(17, 18), (17, 19)]) (.cond (.t 132) (.seq (.reg [⟨some 6, .mv, [.k (.c (.s (.bool false)))], none⟩]) (.ret)) (.skip)))))) (.reg [⟨some 133, .bin .add, [.t 96, .k (.c (.s (.int .i64 1)))], none⟩,
⟨some 96, .mv, [.t 133], none⟩]))))))) (.reg [⟨some 134, .load 2 true, [.t 7], none⟩,
⟨some 135, .mv, [.t 12], none⟩,
⟨some 136, .mv, [.t 12], none⟩,
⟨some 137, .len false, [.t 136], none⟩,
⟨some 138, .call 27, [.t 134, .t 135, .t 137], none⟩,
⟨none, .store 2 true, [.t 7, .t 138], none⟩]))))))))) (.reg [⟨some 35, .mv, [.t 9], none⟩,
⟨some 36, .bin .add, [.t 35, .k (.c (.s (.int .i64 1)))], none⟩,
⟨some 9, .mv, [.t 36], none⟩])))))) (.seq (.reg [⟨some 139, .call 15, [], none⟩,
⟨some 6, .mv, [.t 139], none⟩]) (.ret)))))
noncomputable def G_law18_LogSteps : FuncId → Ab.Spec := addS (addS (addS (addS (addS (addS (addS (addS (noS) 26 (plain newG)) 15 (plain awakeLG)) 16 (plain scanG)) 20 (plain appendG)) 24 (plain renewG)) 27 (plain runG)) 19 (plain refsRG)) 18 (plain sameLG)
theorem G_law18_LogSteps_ok : ∀ f, Contract Try.prog f (G_law18_LogSteps f) := (addS_ok (addS_ok (addS_ok (addS_ok (addS_ok (addS_ok (addS_ok (addS_ok (noS_ok _) contract_disk_New) contract_law18_awake) contract_log_Scan) contract_log_Append) contract_log_Renew) contract_disk_Run) contract_law18_Refs) contract_ref18_Records)
theorem G5_26 : G_law18_LogSteps 26 = plain newG := by simp [G_law18_LogSteps, addS]
theorem G5_15 : G_law18_LogSteps 15 = plain awakeLG := by simp [G_law18_LogSteps, addS]
theorem G5_16 : G_law18_LogSteps 16 = plain scanG := by simp [G_law18_LogSteps, addS]
theorem G5_20 : G_law18_LogSteps 20 = plain appendG := by simp [G_law18_LogSteps, addS]
theorem G5_24 : G_law18_LogSteps 24 = plain renewG := by simp [G_law18_LogSteps, addS]
theorem G5_27 : G_law18_LogSteps 27 = plain runG := by simp [G_law18_LogSteps, addS]
theorem G5_19 : G_law18_LogSteps 19 = plain refsRG := by simp [G_law18_LogSteps, addS]
theorem G5_18 : G_law18_LogSteps 18 = plain sameLG := by simp [G_law18_LogSteps, addS]
set_option maxHeartbeats 16000000 in
set_option maxRecDepth 1000000 in
set_option linter.unusedSimpArgs false in
set_option linter.unusedVariables false in
theorem contract_law18_LogSteps : Contract Try.prog 5 (plain lStepsG) := by
  have hb : ∃ c, Try.f5.body = some c ∧ codeOk 140 c = true ∧ cCode Try.prog c = sc_law18_LogSteps := ⟨_, rfl, by kernel_rfl, by kernel_rfl⟩
  obtain ⟨c, hb1, hb2, hb3⟩ := hb
  refine contract_of (n := 3) G_law18_LogSteps_ok hB hD Try.func5 hb1 (by kernel_rfl) hb2 hb3 (rs := [.tmp 6]) (by kernel_rfl) (by decide) ?_ ?_
  · intro args x h
    obtain ⟨y, hy, -⟩ := Option.map_eq_some_iff.1 h
    obtain ⟨⟨a, tx, f, rn⟩, rfl, -⟩ := specE_some hy
    rfl
  · intro args r hr
    obtain ⟨y, hy, rfl⟩ := Option.map_eq_some_iff.1 hr
    obtain ⟨⟨a, tx, f, rn⟩, rfl, hc, rfl⟩ := specE_some hy
    clear hr hy
    have hc : 0 ≤ a ∧ a < 256 := hc
    change awp _ _ (postQ _ (.v (.c (.s (.bool true))))) _
    unfold lStepsG_enc sc_law18_LogSteps
    obtain ⟨a0, a1⟩ := hc
    have hwr := wrap64 (n := a % 52) (by omega)
    obtain ⟨N, hN, hN1, hN2⟩ : ∃ N : Nat, (9 : Int) + a % 52 = (N : Int) ∧ 9 ≤ N ∧ N ≤ 60 := ⟨(9 + a % 52).toNat, by omega, by omega, by omega⟩
    obtain ⟨hnd, hne⟩ := new_is (N := N) (by omega)
    have hgo := rest_new (N := N) (by omega)
    have h3 : ¬ (10 : Int) = 0 := by omega
    have h30 : ¬ (0 : Int) = 10 := by omega
    generalize newD N = d0 at *
    simp (maxSteps := 4000000) only [↓exT_call G5_26, ↓exT_callo G5_26, ↓exT_calloG G5_26, ↓exT_call G5_15, ↓exT_callo G5_15, ↓exT_calloG G5_15, ↓exT_call G5_16, ↓exT_callo G5_16, ↓exT_calloG G5_16, ↓exT_call G5_20, ↓exT_callo G5_20, ↓exT_calloG G5_20, ↓exT_call G5_24, ↓exT_callo G5_24, ↓exT_calloG G5_24, ↓exT_call G5_27, ↓exT_callo G5_27, ↓exT_calloG G5_27, ↓exT_call G5_19, ↓exT_callo G5_19, ↓exT_calloG G5_19, ↓exT_call G5_18, ↓exT_callo G5_18, ↓exT_calloG G5_18, hwr, hN, hnd, hne, go_sem, Nat.reduceAdd, Nat.reduceSub, Nat.reduceMul, Nat.reduceEqDiff, Nat.reduceLeDiff, Nat.reduceLT, Nat.reduceBEq, Int.reduceLE, Int.reduceLT, Int.reduceToNat, Int.reduceNeg, Int.reduceAdd, Int.reduceSub, Int.reduceMul, ↓reduceIte]
    repeat (refine ⟨by omega, ?_⟩)
    refine awp_loopM (α := Nat × Disk × Nat × List Rec) (fun y => [(1, .c (.s (.list 1 (encs strE tx) f))), (2, .c (.s (.bool rn))), (7, .c (.ptr 7 0)), (9, .c (.s (.int .i64 y.1)))])
      (fun y => [(7, .box [.s (.list 1 (encs strE (y.2.1).sectors) false), .s (.list 2 (encs wrE (y.2.1).cache) false)])]) (fun y => tx.length - y.1) (0, d0, 0, []) (fun y => y.1 ≤ tx.length ∧ y.1 ≤ 12 ∧ AtRest N y.2.1 y.2.2.1 y.2.2.2) ⟨Nat.zero_le _, Nat.zero_le _, hgo⟩ ?_ ?_
    · refine Weak.meets ?_
      simp (maxSteps := 4000000) only [↓exT_call G5_26, ↓exT_callo G5_26, ↓exT_calloG G5_26, ↓exT_call G5_15, ↓exT_callo G5_15, ↓exT_calloG G5_15, ↓exT_call G5_16, ↓exT_callo G5_16, ↓exT_calloG G5_16, ↓exT_call G5_20, ↓exT_callo G5_20, ↓exT_calloG G5_20, ↓exT_call G5_24, ↓exT_callo G5_24, ↓exT_calloG G5_24, ↓exT_call G5_27, ↓exT_callo G5_27, ↓exT_calloG G5_27, ↓exT_call G5_19, ↓exT_callo G5_19, ↓exT_calloG G5_19, ↓exT_call G5_18, ↓exT_callo G5_18, ↓exT_calloG G5_18, go_sem, Nat.reduceAdd, Nat.reduceSub, Nat.reduceMul, Nat.reduceEqDiff, Nat.reduceLeDiff, Nat.reduceLT, Nat.reduceBEq, Int.reduceLE, Int.reduceLT, Int.reduceToNat, Int.reduceNeg, Int.reduceAdd, Int.reduceSub, Int.reduceMul, ↓reduceIte]
      rfl
    rintro ⟨x, d, gn, rs⟩ ⟨hx, hx2, hg⟩
    simp only at hx hx2 hg
    obtain ⟨c1, c2, c3⟩ := rest_len hg
    have c1 : d.sectors.length < 4000000 := by omega
    have c2 : d.cache.length < 4000000 := by omega
    have c3' : rs.length < 4000000 := by omega
    by_cases hx1 : x < tx.length
    case neg =>
      have hxi : ¬ (x : Int) < (tx.length : Int) := by omega
      simp (maxSteps := 4000000) only [↓exT_call G5_26, ↓exT_callo G5_26, ↓exT_calloG G5_26, ↓exT_call G5_15, ↓exT_callo G5_15, ↓exT_calloG G5_15, ↓exT_call G5_16, ↓exT_callo G5_16, ↓exT_calloG G5_16, ↓exT_call G5_20, ↓exT_callo G5_20, ↓exT_calloG G5_20, ↓exT_call G5_24, ↓exT_callo G5_24, ↓exT_calloG G5_24, ↓exT_call G5_27, ↓exT_callo G5_27, ↓exT_calloG G5_27, ↓exT_call G5_19, ↓exT_callo G5_19, ↓exT_calloG G5_19, ↓exT_call G5_18, ↓exT_callo G5_18, ↓exT_calloG G5_18, hxi, go_sem, Nat.reduceAdd, Nat.reduceSub, Nat.reduceMul, Nat.reduceEqDiff, Nat.reduceLeDiff, Nat.reduceLT, Nat.reduceBEq, Int.reduceLE, Int.reduceLT, Int.reduceToNat, Int.reduceNeg, Int.reduceAdd, Int.reduceSub, Int.reduceMul, ↓reduceIte]
    have hxi : (x : Int) < (tx.length : Int) := by omega
    by_cases hx3 : x < 12
    case neg =>
      have hxj : ¬ (x : Int) < 12 := by omega
      simp (maxSteps := 4000000) only [↓exT_call G5_26, ↓exT_callo G5_26, ↓exT_calloG G5_26, ↓exT_call G5_15, ↓exT_callo G5_15, ↓exT_calloG G5_15, ↓exT_call G5_16, ↓exT_callo G5_16, ↓exT_calloG G5_16, ↓exT_call G5_20, ↓exT_callo G5_20, ↓exT_calloG G5_20, ↓exT_call G5_24, ↓exT_callo G5_24, ↓exT_calloG G5_24, ↓exT_call G5_27, ↓exT_callo G5_27, ↓exT_calloG G5_27, ↓exT_call G5_19, ↓exT_callo G5_19, ↓exT_calloG G5_19, ↓exT_call G5_18, ↓exT_callo G5_18, ↓exT_calloG G5_18, hxi, hxj, go_sem, Nat.reduceAdd, Nat.reduceSub, Nat.reduceMul, Nat.reduceEqDiff, Nat.reduceLeDiff, Nat.reduceLT, Nat.reduceBEq, Int.reduceLE, Int.reduceLT, Int.reduceToNat, Int.reduceNeg, Int.reduceAdd, Int.reduceSub, Int.reduceMul, ↓reduceIte]
    have hxj : (x : Int) < 12 := by omega
    generalize ht : tx.getD x default = t at *
    by_cases htl : 200 < (t.length : Int)
    case pos =>
      simp (maxSteps := 4000000) only [↓exT_call G5_26, ↓exT_callo G5_26, ↓exT_calloG G5_26, ↓exT_call G5_15, ↓exT_callo G5_15, ↓exT_calloG G5_15, ↓exT_call G5_16, ↓exT_callo G5_16, ↓exT_calloG G5_16, ↓exT_call G5_20, ↓exT_callo G5_20, ↓exT_calloG G5_20, ↓exT_call G5_24, ↓exT_callo G5_24, ↓exT_calloG G5_24, ↓exT_call G5_27, ↓exT_callo G5_27, ↓exT_calloG G5_27, ↓exT_call G5_19, ↓exT_callo G5_19, ↓exT_calloG G5_19, ↓exT_call G5_18, ↓exT_callo G5_18, ↓exT_calloG G5_18, hxi, hxj, ht, htl, go_sem, Nat.reduceAdd, Nat.reduceSub, Nat.reduceMul, Nat.reduceEqDiff, Nat.reduceLeDiff, Nat.reduceLT, Nat.reduceBEq, Int.reduceLE, Int.reduceLT, Int.reduceToNat, Int.reduceNeg, Int.reduceAdd, Int.reduceSub, Int.reduceMul, ↓reduceIte]
    have hsc := held_gen hg.held
    have s1 := hsc.1
    have s2 := hsc.2.1
    have s3 := hsc.2.2.1
    have hol := append_len d t
    have j1 : ((rs.length : Int) / 2).toNat = rs.length / 2 := by omega
    have j2 : 0 ≤ (rs.length : Int) / 2 ∧ (rs.length : Int) / 2 ≤ (rs.length : Int) := by omega
    have hcase : (rn = true ∧ (x : Int) % 3 = 2 ∧ 0 < (rs.length : Int)) ∨ rn = false ∨ (rn = true ∧ ¬ (x : Int) % 3 = 2) ∨ (rn = true ∧ (x : Int) % 3 = 2 ∧ ¬ 0 < (rs.length : Int)) := by
      cases rn with
      | false => exact .inr (.inl rfl)
      | true => simp only [true_and, false_or]; omega
    have key : ∃ (A P : List DOp × Int), appendD d t = A ∧ ((rn = true ∧ (x : Int) % 3 = 2 ∧ 0 < (rs.length : Int) ∧ renewD d (rs.drop (rs.length / 2)) = P) ∨ (P = A ∧ (rn = false ∨ (rn = true ∧ ¬ (x : Int) % 3 = 2) ∨ (rn = true ∧ (x : Int) % 3 = 2 ∧ ¬ 0 < (rs.length : Int))))) := by
      rcases hcase with h | h
      · exact ⟨_, _, rfl, .inl ⟨h.1, h.2.1, h.2.2, rfl⟩⟩
      · exact ⟨_, _, rfl, .inr ⟨rfl, h⟩⟩
    obtain ⟨A, P, hA, hP⟩ := key
    have hPl : P.1.length ≤ 1000 ∧ A.1.length ≤ 1000 := by
      subst hA
      refine ⟨?_, hol⟩
      rcases hP with ⟨_, _, _, h⟩ | ⟨h, _⟩
      · rw [← h]; exact renew_len _ _
      · rw [h]; exact hol
    have hPl2 : P.1.length < 4000000 := by omega
    have hpl : (P.2 = 0 ∧ ∃ g' rs', Go.Fs.Steps d P.1 gn rs (lastNum rs) g' rs' (lastNum rs') ∧ AtRest N (runD d P.1) g' rs') ∨ P.2 = 10 := by
      refine rest_plan hg ?_
      rcases hP with ⟨_, _, h1, h⟩ | ⟨h, _⟩
      · exact .inr ⟨rs.length / 2, by omega, h⟩
      · exact .inl ⟨t, by omega, by rw [h, hA]⟩
    rcases hpl with ⟨p0, g', rs', hst, hgo'⟩ | p10
    case inr =>
      rcases hP with ⟨q1, q2, q3, q4⟩ | ⟨rfl, q1 | ⟨q1, q2⟩ | ⟨q1, q2, q3⟩⟩
      · subst q1
        simp (maxSteps := 4000000) only [↓exT_call G5_26, ↓exT_callo G5_26, ↓exT_calloG G5_26, ↓exT_call G5_15, ↓exT_callo G5_15, ↓exT_calloG G5_15, ↓exT_call G5_16, ↓exT_callo G5_16, ↓exT_calloG G5_16, ↓exT_call G5_20, ↓exT_callo G5_20, ↓exT_calloG G5_20, ↓exT_call G5_24, ↓exT_callo G5_24, ↓exT_calloG G5_24, ↓exT_call G5_27, ↓exT_callo G5_27, ↓exT_calloG G5_27, ↓exT_call G5_19, ↓exT_callo G5_19, ↓exT_calloG G5_19, ↓exT_call G5_18, ↓exT_callo G5_18, ↓exT_calloG G5_18, hxi, hxj, ht, htl, c1, c2, s1, s3, hA, q2, q3, j1, j2.1, j2.2, c3', q4, p10, h3, go_sem, Nat.reduceAdd, Nat.reduceSub, Nat.reduceMul, Nat.reduceEqDiff, Nat.reduceLeDiff, Nat.reduceLT, Nat.reduceBEq, Int.reduceLE, Int.reduceLT, Int.reduceToNat, Int.reduceNeg, Int.reduceAdd, Int.reduceSub, Int.reduceMul, ↓reduceIte]
        refine ⟨by omega, by simp; omega, by omega, ⟨x + 1, d, gn, rs⟩, ⟨by simp only; omega, by simp only; omega, hg⟩, by simp only; omega, by simp, rfl, rfl⟩
      · subst q1
        simp (maxSteps := 4000000) only [↓exT_call G5_26, ↓exT_callo G5_26, ↓exT_calloG G5_26, ↓exT_call G5_15, ↓exT_callo G5_15, ↓exT_calloG G5_15, ↓exT_call G5_16, ↓exT_callo G5_16, ↓exT_calloG G5_16, ↓exT_call G5_20, ↓exT_callo G5_20, ↓exT_calloG G5_20, ↓exT_call G5_24, ↓exT_callo G5_24, ↓exT_calloG G5_24, ↓exT_call G5_27, ↓exT_callo G5_27, ↓exT_calloG G5_27, ↓exT_call G5_19, ↓exT_callo G5_19, ↓exT_calloG G5_19, ↓exT_call G5_18, ↓exT_callo G5_18, ↓exT_calloG G5_18, hxi, hxj, ht, htl, c1, c2, s1, s3, hA, p10, h3, go_sem, Nat.reduceAdd, Nat.reduceSub, Nat.reduceMul, Nat.reduceEqDiff, Nat.reduceLeDiff, Nat.reduceLT, Nat.reduceBEq, Int.reduceLE, Int.reduceLT, Int.reduceToNat, Int.reduceNeg, Int.reduceAdd, Int.reduceSub, Int.reduceMul, ↓reduceIte]
        refine ⟨by omega, ⟨x + 1, d, gn, rs⟩, ⟨by simp only; omega, by simp only; omega, hg⟩, by simp only; omega, by simp, rfl, rfl⟩
      · subst q1
        simp (maxSteps := 4000000) only [↓exT_call G5_26, ↓exT_callo G5_26, ↓exT_calloG G5_26, ↓exT_call G5_15, ↓exT_callo G5_15, ↓exT_calloG G5_15, ↓exT_call G5_16, ↓exT_callo G5_16, ↓exT_calloG G5_16, ↓exT_call G5_20, ↓exT_callo G5_20, ↓exT_calloG G5_20, ↓exT_call G5_24, ↓exT_callo G5_24, ↓exT_calloG G5_24, ↓exT_call G5_27, ↓exT_callo G5_27, ↓exT_calloG G5_27, ↓exT_call G5_19, ↓exT_callo G5_19, ↓exT_calloG G5_19, ↓exT_call G5_18, ↓exT_callo G5_18, ↓exT_calloG G5_18, hxi, hxj, ht, htl, c1, c2, s1, s3, hA, q2, p10, h3, go_sem, Nat.reduceAdd, Nat.reduceSub, Nat.reduceMul, Nat.reduceEqDiff, Nat.reduceLeDiff, Nat.reduceLT, Nat.reduceBEq, Int.reduceLE, Int.reduceLT, Int.reduceToNat, Int.reduceNeg, Int.reduceAdd, Int.reduceSub, Int.reduceMul, ↓reduceIte]
        refine ⟨by omega, ⟨x + 1, d, gn, rs⟩, ⟨by simp only; omega, by simp only; omega, hg⟩, by simp only; omega, by simp, rfl, rfl⟩
      · subst q1
        simp (maxSteps := 4000000) only [↓exT_call G5_26, ↓exT_callo G5_26, ↓exT_calloG G5_26, ↓exT_call G5_15, ↓exT_callo G5_15, ↓exT_calloG G5_15, ↓exT_call G5_16, ↓exT_callo G5_16, ↓exT_calloG G5_16, ↓exT_call G5_20, ↓exT_callo G5_20, ↓exT_calloG G5_20, ↓exT_call G5_24, ↓exT_callo G5_24, ↓exT_calloG G5_24, ↓exT_call G5_27, ↓exT_callo G5_27, ↓exT_calloG G5_27, ↓exT_call G5_19, ↓exT_callo G5_19, ↓exT_calloG G5_19, ↓exT_call G5_18, ↓exT_callo G5_18, ↓exT_calloG G5_18, hxi, hxj, ht, htl, c1, c2, s1, s3, hA, q2, q3, p10, h3, go_sem, Nat.reduceAdd, Nat.reduceSub, Nat.reduceMul, Nat.reduceEqDiff, Nat.reduceLeDiff, Nat.reduceLT, Nat.reduceBEq, Int.reduceLE, Int.reduceLT, Int.reduceToNat, Int.reduceNeg, Int.reduceAdd, Int.reduceSub, Int.reduceMul, ↓reduceIte]
        refine ⟨by omega, ⟨x + 1, d, gn, rs⟩, ⟨by simp only; omega, by simp only; omega, hg⟩, by simp only; omega, by simp, rfl, rfl⟩
    have hru : runN d P.1 (P.1.length : Int) = runD d P.1 := run_lenN
    have hrl := fun i : Nat => run_len (P.1.take i) d
    rcases hP with ⟨q1, q2, q3, q4⟩ | ⟨rfl, q1 | ⟨q1, q2⟩ | ⟨q1, q2, q3⟩⟩
    · subst q1
      simp (maxSteps := 4000000) only [↓exT_call G5_26, ↓exT_callo G5_26, ↓exT_calloG G5_26, ↓exT_call G5_15, ↓exT_callo G5_15, ↓exT_calloG G5_15, ↓exT_call G5_16, ↓exT_callo G5_16, ↓exT_calloG G5_16, ↓exT_call G5_20, ↓exT_callo G5_20, ↓exT_calloG G5_20, ↓exT_call G5_24, ↓exT_callo G5_24, ↓exT_calloG G5_24, ↓exT_call G5_27, ↓exT_callo G5_27, ↓exT_calloG G5_27, ↓exT_call G5_19, ↓exT_callo G5_19, ↓exT_calloG G5_19, ↓exT_call G5_18, ↓exT_callo G5_18, ↓exT_calloG G5_18, hxi, hxj, ht, htl, c1, c2, s1, s2, s3, hA, q2, q3, j1, j2.1, j2.2, c3', q4, p0, h30, go_sem, Nat.reduceAdd, Nat.reduceSub, Nat.reduceMul, Nat.reduceEqDiff, Nat.reduceLeDiff, Nat.reduceLT, Nat.reduceBEq, Int.reduceLE, Int.reduceLT, Int.reduceToNat, Int.reduceNeg, Int.reduceAdd, Int.reduceSub, Int.reduceMul, ↓reduceIte]
      refine ⟨by omega, by simp; omega, ?_⟩
      refine awp_loopM (α := Nat) (fun i => [(1, .c (.s (.list 1 (encs strE tx) f))), (2, .c (.s (.bool true))), (7, .c (.ptr 7 0)), (9, .c (.s (.int .i64 x))), (10, .c (.ptr 10 0)), (12, .c (.s (.list 3 (encs opE P.1) false))), (95, .c (.s (.int .i64 P.1.length))), (96, .c (.s (.int .i64 i)))])
        (fun _ => [(7, .box [.s (.list 1 (encs strE (d).sectors) false), .s (.list 2 (encs wrE (d).cache) false)]), (10, .box [.s (.int .i64 gn), .s (.list 2 (encs recE rs) false), .s (.int .i64 ((scanD d).1.next : Nat))])]) (fun i => P.1.length - i) 0 (fun i => i ≤ P.1.length) (Nat.zero_le _) ?_ ?_
      · refine Weak.meets ?_
        simp (maxSteps := 4000000) only [↓exT_call G5_26, ↓exT_callo G5_26, ↓exT_calloG G5_26, ↓exT_call G5_15, ↓exT_callo G5_15, ↓exT_calloG G5_15, ↓exT_call G5_16, ↓exT_callo G5_16, ↓exT_calloG G5_16, ↓exT_call G5_20, ↓exT_callo G5_20, ↓exT_calloG G5_20, ↓exT_call G5_24, ↓exT_callo G5_24, ↓exT_calloG G5_24, ↓exT_call G5_27, ↓exT_callo G5_27, ↓exT_calloG G5_27, ↓exT_call G5_19, ↓exT_callo G5_19, ↓exT_calloG G5_19, ↓exT_call G5_18, ↓exT_callo G5_18, ↓exT_calloG G5_18, go_sem, Nat.reduceAdd, Nat.reduceSub, Nat.reduceMul, Nat.reduceEqDiff, Nat.reduceLeDiff, Nat.reduceLT, Nat.reduceBEq, Int.reduceLE, Int.reduceLT, Int.reduceToNat, Int.reduceNeg, Int.reduceAdd, Int.reduceSub, Int.reduceMul, ↓reduceIte]
        rfl
      intro i hi
      by_cases hil : i < P.1.length
      · have hii : (i : Int) < (P.1.length : Int) := by omega
        have hsn := hst.scan i
        have hon := hst.old i
        obtain ⟨r1, r2⟩ := hrl i
        have hrn : runN d P.1 (i : Int) = runD d (P.1.take i) := by unfold runN; rw [Int.toNat_natCast]
        generalize runD d (P.1.take i) = dn at *
        have r1' : dn.sectors.length < 4000000 := by omega
        have r2' : dn.cache.length < 4000000 := by omega
        by_cases hl1 : i + 1 < P.1.length
        · have hl2 : (i : Int) < (P.1.length : Int) - 1 := by omega
          obtain ⟨o1, o2⟩ := hon hl1
          simp (maxSteps := 4000000) only [↓exT_call G5_26, ↓exT_callo G5_26, ↓exT_calloG G5_26, ↓exT_call G5_15, ↓exT_callo G5_15, ↓exT_calloG G5_15, ↓exT_call G5_16, ↓exT_callo G5_16, ↓exT_calloG G5_16, ↓exT_call G5_20, ↓exT_callo G5_20, ↓exT_calloG G5_20, ↓exT_call G5_24, ↓exT_callo G5_24, ↓exT_calloG G5_24, ↓exT_call G5_27, ↓exT_callo G5_27, ↓exT_calloG G5_27, ↓exT_call G5_19, ↓exT_callo G5_19, ↓exT_calloG G5_19, ↓exT_call G5_18, ↓exT_callo G5_18, ↓exT_calloG G5_18, hii, c1, c2, hPl2, hrn, r1', r2', hsn, hl2, o1, o2, c3', go_sem, Nat.reduceAdd, Nat.reduceSub, Nat.reduceMul, Nat.reduceEqDiff, Nat.reduceLeDiff, Nat.reduceLT, Nat.reduceBEq, Int.reduceLE, Int.reduceLT, Int.reduceToNat, Int.reduceNeg, Int.reduceAdd, Int.reduceSub, Int.reduceMul, ↓reduceIte]
          exact ⟨by omega, by omega, i + 1, by omega, by omega, by simp⟩
        · have hl2 : ¬ (i : Int) < (P.1.length : Int) - 1 := by omega
          simp (maxSteps := 4000000) only [↓exT_call G5_26, ↓exT_callo G5_26, ↓exT_calloG G5_26, ↓exT_call G5_15, ↓exT_callo G5_15, ↓exT_calloG G5_15, ↓exT_call G5_16, ↓exT_callo G5_16, ↓exT_calloG G5_16, ↓exT_call G5_20, ↓exT_callo G5_20, ↓exT_calloG G5_20, ↓exT_call G5_24, ↓exT_callo G5_24, ↓exT_calloG G5_24, ↓exT_call G5_27, ↓exT_callo G5_27, ↓exT_calloG G5_27, ↓exT_call G5_19, ↓exT_callo G5_19, ↓exT_calloG G5_19, ↓exT_call G5_18, ↓exT_callo G5_18, ↓exT_calloG G5_18, hii, c1, c2, hPl2, hrn, r1', r2', hsn, hl2, go_sem, Nat.reduceAdd, Nat.reduceSub, Nat.reduceMul, Nat.reduceEqDiff, Nat.reduceLeDiff, Nat.reduceLT, Nat.reduceBEq, Int.reduceLE, Int.reduceLT, Int.reduceToNat, Int.reduceNeg, Int.reduceAdd, Int.reduceSub, Int.reduceMul, ↓reduceIte]
          exact ⟨by omega, by omega, i + 1, by omega, by omega, by simp⟩
      · have hii : ¬ (i : Int) < (P.1.length : Int) := by omega
        simp (maxSteps := 4000000) only [↓exT_call G5_26, ↓exT_callo G5_26, ↓exT_calloG G5_26, ↓exT_call G5_15, ↓exT_callo G5_15, ↓exT_calloG G5_15, ↓exT_call G5_16, ↓exT_callo G5_16, ↓exT_calloG G5_16, ↓exT_call G5_20, ↓exT_callo G5_20, ↓exT_calloG G5_20, ↓exT_call G5_24, ↓exT_callo G5_24, ↓exT_calloG G5_24, ↓exT_call G5_27, ↓exT_callo G5_27, ↓exT_calloG G5_27, ↓exT_call G5_19, ↓exT_callo G5_19, ↓exT_calloG G5_19, ↓exT_call G5_18, ↓exT_callo G5_18, ↓exT_calloG G5_18, hii, c1, c2, hPl2, hru, go_sem, Nat.reduceAdd, Nat.reduceSub, Nat.reduceMul, Nat.reduceEqDiff, Nat.reduceLeDiff, Nat.reduceLT, Nat.reduceBEq, Int.reduceLE, Int.reduceLT, Int.reduceToNat, Int.reduceNeg, Int.reduceAdd, Int.reduceSub, Int.reduceMul, ↓reduceIte]
        exact ⟨by omega, ⟨x + 1, runD d P.1, g', rs'⟩, ⟨by simp only; omega, by simp only; omega, hgo'⟩, by simp only; omega, by simp, rfl, rfl⟩
    · subst q1
      simp (maxSteps := 4000000) only [↓exT_call G5_26, ↓exT_callo G5_26, ↓exT_calloG G5_26, ↓exT_call G5_15, ↓exT_callo G5_15, ↓exT_calloG G5_15, ↓exT_call G5_16, ↓exT_callo G5_16, ↓exT_calloG G5_16, ↓exT_call G5_20, ↓exT_callo G5_20, ↓exT_calloG G5_20, ↓exT_call G5_24, ↓exT_callo G5_24, ↓exT_calloG G5_24, ↓exT_call G5_27, ↓exT_callo G5_27, ↓exT_calloG G5_27, ↓exT_call G5_19, ↓exT_callo G5_19, ↓exT_calloG G5_19, ↓exT_call G5_18, ↓exT_callo G5_18, ↓exT_calloG G5_18, hxi, hxj, ht, htl, c1, c2, s1, s2, s3, hA, p0, h30, go_sem, Nat.reduceAdd, Nat.reduceSub, Nat.reduceMul, Nat.reduceEqDiff, Nat.reduceLeDiff, Nat.reduceLT, Nat.reduceBEq, Int.reduceLE, Int.reduceLT, Int.reduceToNat, Int.reduceNeg, Int.reduceAdd, Int.reduceSub, Int.reduceMul, ↓reduceIte]
      refine awp_loopM (α := Nat) (fun i => [(1, .c (.s (.list 1 (encs strE tx) f))), (2, .c (.s (.bool false))), (7, .c (.ptr 7 0)), (9, .c (.s (.int .i64 x))), (10, .c (.ptr 10 0)), (12, .c (.s (.list 3 (encs opE P.1) false))), (95, .c (.s (.int .i64 P.1.length))), (96, .c (.s (.int .i64 i)))])
        (fun _ => [(7, .box [.s (.list 1 (encs strE (d).sectors) false), .s (.list 2 (encs wrE (d).cache) false)]), (10, .box [.s (.int .i64 gn), .s (.list 2 (encs recE rs) false), .s (.int .i64 ((scanD d).1.next : Nat))])]) (fun i => P.1.length - i) 0 (fun i => i ≤ P.1.length) (Nat.zero_le _) ?_ ?_
      · refine Weak.meets ?_
        simp (maxSteps := 4000000) only [↓exT_call G5_26, ↓exT_callo G5_26, ↓exT_calloG G5_26, ↓exT_call G5_15, ↓exT_callo G5_15, ↓exT_calloG G5_15, ↓exT_call G5_16, ↓exT_callo G5_16, ↓exT_calloG G5_16, ↓exT_call G5_20, ↓exT_callo G5_20, ↓exT_calloG G5_20, ↓exT_call G5_24, ↓exT_callo G5_24, ↓exT_calloG G5_24, ↓exT_call G5_27, ↓exT_callo G5_27, ↓exT_calloG G5_27, ↓exT_call G5_19, ↓exT_callo G5_19, ↓exT_calloG G5_19, ↓exT_call G5_18, ↓exT_callo G5_18, ↓exT_calloG G5_18, go_sem, Nat.reduceAdd, Nat.reduceSub, Nat.reduceMul, Nat.reduceEqDiff, Nat.reduceLeDiff, Nat.reduceLT, Nat.reduceBEq, Int.reduceLE, Int.reduceLT, Int.reduceToNat, Int.reduceNeg, Int.reduceAdd, Int.reduceSub, Int.reduceMul, ↓reduceIte]
        rfl
      intro i hi
      by_cases hil : i < P.1.length
      · have hii : (i : Int) < (P.1.length : Int) := by omega
        have hsn := hst.scan i
        have hon := hst.old i
        obtain ⟨r1, r2⟩ := hrl i
        have hrn : runN d P.1 (i : Int) = runD d (P.1.take i) := by unfold runN; rw [Int.toNat_natCast]
        generalize runD d (P.1.take i) = dn at *
        have r1' : dn.sectors.length < 4000000 := by omega
        have r2' : dn.cache.length < 4000000 := by omega
        by_cases hl1 : i + 1 < P.1.length
        · have hl2 : (i : Int) < (P.1.length : Int) - 1 := by omega
          obtain ⟨o1, o2⟩ := hon hl1
          simp (maxSteps := 4000000) only [↓exT_call G5_26, ↓exT_callo G5_26, ↓exT_calloG G5_26, ↓exT_call G5_15, ↓exT_callo G5_15, ↓exT_calloG G5_15, ↓exT_call G5_16, ↓exT_callo G5_16, ↓exT_calloG G5_16, ↓exT_call G5_20, ↓exT_callo G5_20, ↓exT_calloG G5_20, ↓exT_call G5_24, ↓exT_callo G5_24, ↓exT_calloG G5_24, ↓exT_call G5_27, ↓exT_callo G5_27, ↓exT_calloG G5_27, ↓exT_call G5_19, ↓exT_callo G5_19, ↓exT_calloG G5_19, ↓exT_call G5_18, ↓exT_callo G5_18, ↓exT_calloG G5_18, hii, c1, c2, hPl2, hrn, r1', r2', hsn, hl2, o1, o2, c3', go_sem, Nat.reduceAdd, Nat.reduceSub, Nat.reduceMul, Nat.reduceEqDiff, Nat.reduceLeDiff, Nat.reduceLT, Nat.reduceBEq, Int.reduceLE, Int.reduceLT, Int.reduceToNat, Int.reduceNeg, Int.reduceAdd, Int.reduceSub, Int.reduceMul, ↓reduceIte]
          exact ⟨by omega, by omega, i + 1, by omega, by omega, by simp⟩
        · have hl2 : ¬ (i : Int) < (P.1.length : Int) - 1 := by omega
          simp (maxSteps := 4000000) only [↓exT_call G5_26, ↓exT_callo G5_26, ↓exT_calloG G5_26, ↓exT_call G5_15, ↓exT_callo G5_15, ↓exT_calloG G5_15, ↓exT_call G5_16, ↓exT_callo G5_16, ↓exT_calloG G5_16, ↓exT_call G5_20, ↓exT_callo G5_20, ↓exT_calloG G5_20, ↓exT_call G5_24, ↓exT_callo G5_24, ↓exT_calloG G5_24, ↓exT_call G5_27, ↓exT_callo G5_27, ↓exT_calloG G5_27, ↓exT_call G5_19, ↓exT_callo G5_19, ↓exT_calloG G5_19, ↓exT_call G5_18, ↓exT_callo G5_18, ↓exT_calloG G5_18, hii, c1, c2, hPl2, hrn, r1', r2', hsn, hl2, go_sem, Nat.reduceAdd, Nat.reduceSub, Nat.reduceMul, Nat.reduceEqDiff, Nat.reduceLeDiff, Nat.reduceLT, Nat.reduceBEq, Int.reduceLE, Int.reduceLT, Int.reduceToNat, Int.reduceNeg, Int.reduceAdd, Int.reduceSub, Int.reduceMul, ↓reduceIte]
          exact ⟨by omega, by omega, i + 1, by omega, by omega, by simp⟩
      · have hii : ¬ (i : Int) < (P.1.length : Int) := by omega
        simp (maxSteps := 4000000) only [↓exT_call G5_26, ↓exT_callo G5_26, ↓exT_calloG G5_26, ↓exT_call G5_15, ↓exT_callo G5_15, ↓exT_calloG G5_15, ↓exT_call G5_16, ↓exT_callo G5_16, ↓exT_calloG G5_16, ↓exT_call G5_20, ↓exT_callo G5_20, ↓exT_calloG G5_20, ↓exT_call G5_24, ↓exT_callo G5_24, ↓exT_calloG G5_24, ↓exT_call G5_27, ↓exT_callo G5_27, ↓exT_calloG G5_27, ↓exT_call G5_19, ↓exT_callo G5_19, ↓exT_calloG G5_19, ↓exT_call G5_18, ↓exT_callo G5_18, ↓exT_calloG G5_18, hii, c1, c2, hPl2, hru, go_sem, Nat.reduceAdd, Nat.reduceSub, Nat.reduceMul, Nat.reduceEqDiff, Nat.reduceLeDiff, Nat.reduceLT, Nat.reduceBEq, Int.reduceLE, Int.reduceLT, Int.reduceToNat, Int.reduceNeg, Int.reduceAdd, Int.reduceSub, Int.reduceMul, ↓reduceIte]
        exact ⟨by omega, ⟨x + 1, runD d P.1, g', rs'⟩, ⟨by simp only; omega, by simp only; omega, hgo'⟩, by simp only; omega, by simp, rfl, rfl⟩
    · subst q1
      simp (maxSteps := 4000000) only [↓exT_call G5_26, ↓exT_callo G5_26, ↓exT_calloG G5_26, ↓exT_call G5_15, ↓exT_callo G5_15, ↓exT_calloG G5_15, ↓exT_call G5_16, ↓exT_callo G5_16, ↓exT_calloG G5_16, ↓exT_call G5_20, ↓exT_callo G5_20, ↓exT_calloG G5_20, ↓exT_call G5_24, ↓exT_callo G5_24, ↓exT_calloG G5_24, ↓exT_call G5_27, ↓exT_callo G5_27, ↓exT_calloG G5_27, ↓exT_call G5_19, ↓exT_callo G5_19, ↓exT_calloG G5_19, ↓exT_call G5_18, ↓exT_callo G5_18, ↓exT_calloG G5_18, hxi, hxj, ht, htl, c1, c2, s1, s2, s3, hA, q2, p0, h30, go_sem, Nat.reduceAdd, Nat.reduceSub, Nat.reduceMul, Nat.reduceEqDiff, Nat.reduceLeDiff, Nat.reduceLT, Nat.reduceBEq, Int.reduceLE, Int.reduceLT, Int.reduceToNat, Int.reduceNeg, Int.reduceAdd, Int.reduceSub, Int.reduceMul, ↓reduceIte]
      refine awp_loopM (α := Nat) (fun i => [(1, .c (.s (.list 1 (encs strE tx) f))), (2, .c (.s (.bool true))), (7, .c (.ptr 7 0)), (9, .c (.s (.int .i64 x))), (10, .c (.ptr 10 0)), (12, .c (.s (.list 3 (encs opE P.1) false))), (95, .c (.s (.int .i64 P.1.length))), (96, .c (.s (.int .i64 i)))])
        (fun _ => [(7, .box [.s (.list 1 (encs strE (d).sectors) false), .s (.list 2 (encs wrE (d).cache) false)]), (10, .box [.s (.int .i64 gn), .s (.list 2 (encs recE rs) false), .s (.int .i64 ((scanD d).1.next : Nat))])]) (fun i => P.1.length - i) 0 (fun i => i ≤ P.1.length) (Nat.zero_le _) ?_ ?_
      · refine Weak.meets ?_
        simp (maxSteps := 4000000) only [↓exT_call G5_26, ↓exT_callo G5_26, ↓exT_calloG G5_26, ↓exT_call G5_15, ↓exT_callo G5_15, ↓exT_calloG G5_15, ↓exT_call G5_16, ↓exT_callo G5_16, ↓exT_calloG G5_16, ↓exT_call G5_20, ↓exT_callo G5_20, ↓exT_calloG G5_20, ↓exT_call G5_24, ↓exT_callo G5_24, ↓exT_calloG G5_24, ↓exT_call G5_27, ↓exT_callo G5_27, ↓exT_calloG G5_27, ↓exT_call G5_19, ↓exT_callo G5_19, ↓exT_calloG G5_19, ↓exT_call G5_18, ↓exT_callo G5_18, ↓exT_calloG G5_18, go_sem, Nat.reduceAdd, Nat.reduceSub, Nat.reduceMul, Nat.reduceEqDiff, Nat.reduceLeDiff, Nat.reduceLT, Nat.reduceBEq, Int.reduceLE, Int.reduceLT, Int.reduceToNat, Int.reduceNeg, Int.reduceAdd, Int.reduceSub, Int.reduceMul, ↓reduceIte]
        rfl
      intro i hi
      by_cases hil : i < P.1.length
      · have hii : (i : Int) < (P.1.length : Int) := by omega
        have hsn := hst.scan i
        have hon := hst.old i
        obtain ⟨r1, r2⟩ := hrl i
        have hrn : runN d P.1 (i : Int) = runD d (P.1.take i) := by unfold runN; rw [Int.toNat_natCast]
        generalize runD d (P.1.take i) = dn at *
        have r1' : dn.sectors.length < 4000000 := by omega
        have r2' : dn.cache.length < 4000000 := by omega
        by_cases hl1 : i + 1 < P.1.length
        · have hl2 : (i : Int) < (P.1.length : Int) - 1 := by omega
          obtain ⟨o1, o2⟩ := hon hl1
          simp (maxSteps := 4000000) only [↓exT_call G5_26, ↓exT_callo G5_26, ↓exT_calloG G5_26, ↓exT_call G5_15, ↓exT_callo G5_15, ↓exT_calloG G5_15, ↓exT_call G5_16, ↓exT_callo G5_16, ↓exT_calloG G5_16, ↓exT_call G5_20, ↓exT_callo G5_20, ↓exT_calloG G5_20, ↓exT_call G5_24, ↓exT_callo G5_24, ↓exT_calloG G5_24, ↓exT_call G5_27, ↓exT_callo G5_27, ↓exT_calloG G5_27, ↓exT_call G5_19, ↓exT_callo G5_19, ↓exT_calloG G5_19, ↓exT_call G5_18, ↓exT_callo G5_18, ↓exT_calloG G5_18, hii, c1, c2, hPl2, hrn, r1', r2', hsn, hl2, o1, o2, c3', go_sem, Nat.reduceAdd, Nat.reduceSub, Nat.reduceMul, Nat.reduceEqDiff, Nat.reduceLeDiff, Nat.reduceLT, Nat.reduceBEq, Int.reduceLE, Int.reduceLT, Int.reduceToNat, Int.reduceNeg, Int.reduceAdd, Int.reduceSub, Int.reduceMul, ↓reduceIte]
          exact ⟨by omega, by omega, i + 1, by omega, by omega, by simp⟩
        · have hl2 : ¬ (i : Int) < (P.1.length : Int) - 1 := by omega
          simp (maxSteps := 4000000) only [↓exT_call G5_26, ↓exT_callo G5_26, ↓exT_calloG G5_26, ↓exT_call G5_15, ↓exT_callo G5_15, ↓exT_calloG G5_15, ↓exT_call G5_16, ↓exT_callo G5_16, ↓exT_calloG G5_16, ↓exT_call G5_20, ↓exT_callo G5_20, ↓exT_calloG G5_20, ↓exT_call G5_24, ↓exT_callo G5_24, ↓exT_calloG G5_24, ↓exT_call G5_27, ↓exT_callo G5_27, ↓exT_calloG G5_27, ↓exT_call G5_19, ↓exT_callo G5_19, ↓exT_calloG G5_19, ↓exT_call G5_18, ↓exT_callo G5_18, ↓exT_calloG G5_18, hii, c1, c2, hPl2, hrn, r1', r2', hsn, hl2, go_sem, Nat.reduceAdd, Nat.reduceSub, Nat.reduceMul, Nat.reduceEqDiff, Nat.reduceLeDiff, Nat.reduceLT, Nat.reduceBEq, Int.reduceLE, Int.reduceLT, Int.reduceToNat, Int.reduceNeg, Int.reduceAdd, Int.reduceSub, Int.reduceMul, ↓reduceIte]
          exact ⟨by omega, by omega, i + 1, by omega, by omega, by simp⟩
      · have hii : ¬ (i : Int) < (P.1.length : Int) := by omega
        simp (maxSteps := 4000000) only [↓exT_call G5_26, ↓exT_callo G5_26, ↓exT_calloG G5_26, ↓exT_call G5_15, ↓exT_callo G5_15, ↓exT_calloG G5_15, ↓exT_call G5_16, ↓exT_callo G5_16, ↓exT_calloG G5_16, ↓exT_call G5_20, ↓exT_callo G5_20, ↓exT_calloG G5_20, ↓exT_call G5_24, ↓exT_callo G5_24, ↓exT_calloG G5_24, ↓exT_call G5_27, ↓exT_callo G5_27, ↓exT_calloG G5_27, ↓exT_call G5_19, ↓exT_callo G5_19, ↓exT_calloG G5_19, ↓exT_call G5_18, ↓exT_callo G5_18, ↓exT_calloG G5_18, hii, c1, c2, hPl2, hru, go_sem, Nat.reduceAdd, Nat.reduceSub, Nat.reduceMul, Nat.reduceEqDiff, Nat.reduceLeDiff, Nat.reduceLT, Nat.reduceBEq, Int.reduceLE, Int.reduceLT, Int.reduceToNat, Int.reduceNeg, Int.reduceAdd, Int.reduceSub, Int.reduceMul, ↓reduceIte]
        exact ⟨by omega, ⟨x + 1, runD d P.1, g', rs'⟩, ⟨by simp only; omega, by simp only; omega, hgo'⟩, by simp only; omega, by simp, rfl, rfl⟩
    · subst q1
      simp (maxSteps := 4000000) only [↓exT_call G5_26, ↓exT_callo G5_26, ↓exT_calloG G5_26, ↓exT_call G5_15, ↓exT_callo G5_15, ↓exT_calloG G5_15, ↓exT_call G5_16, ↓exT_callo G5_16, ↓exT_calloG G5_16, ↓exT_call G5_20, ↓exT_callo G5_20, ↓exT_calloG G5_20, ↓exT_call G5_24, ↓exT_callo G5_24, ↓exT_calloG G5_24, ↓exT_call G5_27, ↓exT_callo G5_27, ↓exT_calloG G5_27, ↓exT_call G5_19, ↓exT_callo G5_19, ↓exT_calloG G5_19, ↓exT_call G5_18, ↓exT_callo G5_18, ↓exT_calloG G5_18, hxi, hxj, ht, htl, c1, c2, s1, s2, s3, hA, q2, q3, p0, h30, go_sem, Nat.reduceAdd, Nat.reduceSub, Nat.reduceMul, Nat.reduceEqDiff, Nat.reduceLeDiff, Nat.reduceLT, Nat.reduceBEq, Int.reduceLE, Int.reduceLT, Int.reduceToNat, Int.reduceNeg, Int.reduceAdd, Int.reduceSub, Int.reduceMul, ↓reduceIte]
      refine awp_loopM (α := Nat) (fun i => [(1, .c (.s (.list 1 (encs strE tx) f))), (2, .c (.s (.bool true))), (7, .c (.ptr 7 0)), (9, .c (.s (.int .i64 x))), (10, .c (.ptr 10 0)), (12, .c (.s (.list 3 (encs opE P.1) false))), (95, .c (.s (.int .i64 P.1.length))), (96, .c (.s (.int .i64 i)))])
        (fun _ => [(7, .box [.s (.list 1 (encs strE (d).sectors) false), .s (.list 2 (encs wrE (d).cache) false)]), (10, .box [.s (.int .i64 gn), .s (.list 2 (encs recE rs) false), .s (.int .i64 ((scanD d).1.next : Nat))])]) (fun i => P.1.length - i) 0 (fun i => i ≤ P.1.length) (Nat.zero_le _) ?_ ?_
      · refine Weak.meets ?_
        simp (maxSteps := 4000000) only [↓exT_call G5_26, ↓exT_callo G5_26, ↓exT_calloG G5_26, ↓exT_call G5_15, ↓exT_callo G5_15, ↓exT_calloG G5_15, ↓exT_call G5_16, ↓exT_callo G5_16, ↓exT_calloG G5_16, ↓exT_call G5_20, ↓exT_callo G5_20, ↓exT_calloG G5_20, ↓exT_call G5_24, ↓exT_callo G5_24, ↓exT_calloG G5_24, ↓exT_call G5_27, ↓exT_callo G5_27, ↓exT_calloG G5_27, ↓exT_call G5_19, ↓exT_callo G5_19, ↓exT_calloG G5_19, ↓exT_call G5_18, ↓exT_callo G5_18, ↓exT_calloG G5_18, go_sem, Nat.reduceAdd, Nat.reduceSub, Nat.reduceMul, Nat.reduceEqDiff, Nat.reduceLeDiff, Nat.reduceLT, Nat.reduceBEq, Int.reduceLE, Int.reduceLT, Int.reduceToNat, Int.reduceNeg, Int.reduceAdd, Int.reduceSub, Int.reduceMul, ↓reduceIte]
        rfl
      intro i hi
      by_cases hil : i < P.1.length
      · have hii : (i : Int) < (P.1.length : Int) := by omega
        have hsn := hst.scan i
        have hon := hst.old i
        obtain ⟨r1, r2⟩ := hrl i
        have hrn : runN d P.1 (i : Int) = runD d (P.1.take i) := by unfold runN; rw [Int.toNat_natCast]
        generalize runD d (P.1.take i) = dn at *
        have r1' : dn.sectors.length < 4000000 := by omega
        have r2' : dn.cache.length < 4000000 := by omega
        by_cases hl1 : i + 1 < P.1.length
        · have hl2 : (i : Int) < (P.1.length : Int) - 1 := by omega
          obtain ⟨o1, o2⟩ := hon hl1
          simp (maxSteps := 4000000) only [↓exT_call G5_26, ↓exT_callo G5_26, ↓exT_calloG G5_26, ↓exT_call G5_15, ↓exT_callo G5_15, ↓exT_calloG G5_15, ↓exT_call G5_16, ↓exT_callo G5_16, ↓exT_calloG G5_16, ↓exT_call G5_20, ↓exT_callo G5_20, ↓exT_calloG G5_20, ↓exT_call G5_24, ↓exT_callo G5_24, ↓exT_calloG G5_24, ↓exT_call G5_27, ↓exT_callo G5_27, ↓exT_calloG G5_27, ↓exT_call G5_19, ↓exT_callo G5_19, ↓exT_calloG G5_19, ↓exT_call G5_18, ↓exT_callo G5_18, ↓exT_calloG G5_18, hii, c1, c2, hPl2, hrn, r1', r2', hsn, hl2, o1, o2, c3', go_sem, Nat.reduceAdd, Nat.reduceSub, Nat.reduceMul, Nat.reduceEqDiff, Nat.reduceLeDiff, Nat.reduceLT, Nat.reduceBEq, Int.reduceLE, Int.reduceLT, Int.reduceToNat, Int.reduceNeg, Int.reduceAdd, Int.reduceSub, Int.reduceMul, ↓reduceIte]
          exact ⟨by omega, by omega, i + 1, by omega, by omega, by simp⟩
        · have hl2 : ¬ (i : Int) < (P.1.length : Int) - 1 := by omega
          simp (maxSteps := 4000000) only [↓exT_call G5_26, ↓exT_callo G5_26, ↓exT_calloG G5_26, ↓exT_call G5_15, ↓exT_callo G5_15, ↓exT_calloG G5_15, ↓exT_call G5_16, ↓exT_callo G5_16, ↓exT_calloG G5_16, ↓exT_call G5_20, ↓exT_callo G5_20, ↓exT_calloG G5_20, ↓exT_call G5_24, ↓exT_callo G5_24, ↓exT_calloG G5_24, ↓exT_call G5_27, ↓exT_callo G5_27, ↓exT_calloG G5_27, ↓exT_call G5_19, ↓exT_callo G5_19, ↓exT_calloG G5_19, ↓exT_call G5_18, ↓exT_callo G5_18, ↓exT_calloG G5_18, hii, c1, c2, hPl2, hrn, r1', r2', hsn, hl2, go_sem, Nat.reduceAdd, Nat.reduceSub, Nat.reduceMul, Nat.reduceEqDiff, Nat.reduceLeDiff, Nat.reduceLT, Nat.reduceBEq, Int.reduceLE, Int.reduceLT, Int.reduceToNat, Int.reduceNeg, Int.reduceAdd, Int.reduceSub, Int.reduceMul, ↓reduceIte]
          exact ⟨by omega, by omega, i + 1, by omega, by omega, by simp⟩
      · have hii : ¬ (i : Int) < (P.1.length : Int) := by omega
        simp (maxSteps := 4000000) only [↓exT_call G5_26, ↓exT_callo G5_26, ↓exT_calloG G5_26, ↓exT_call G5_15, ↓exT_callo G5_15, ↓exT_calloG G5_15, ↓exT_call G5_16, ↓exT_callo G5_16, ↓exT_calloG G5_16, ↓exT_call G5_20, ↓exT_callo G5_20, ↓exT_calloG G5_20, ↓exT_call G5_24, ↓exT_callo G5_24, ↓exT_calloG G5_24, ↓exT_call G5_27, ↓exT_callo G5_27, ↓exT_calloG G5_27, ↓exT_call G5_19, ↓exT_callo G5_19, ↓exT_calloG G5_19, ↓exT_call G5_18, ↓exT_callo G5_18, ↓exT_calloG G5_18, hii, c1, c2, hPl2, hru, go_sem, Nat.reduceAdd, Nat.reduceSub, Nat.reduceMul, Nat.reduceEqDiff, Nat.reduceLeDiff, Nat.reduceLT, Nat.reduceBEq, Int.reduceLE, Int.reduceLT, Int.reduceToNat, Int.reduceNeg, Int.reduceAdd, Int.reduceSub, Int.reduceMul, ↓reduceIte]
        exact ⟨by omega, ⟨x + 1, runD d P.1, g', rs'⟩, ⟨by simp only; omega, by simp only; omega, hgo'⟩, by simp only; omega, by simp, rfl, rfl⟩

end Go.Proofs.Ytniioedflegdkaa
