/- The statements on the log, as functions: LogKeeps. -/
import Derived.Test.YtniioedflegdkaaG11
set_option linter.all false
namespace Go.Proofs.Ytniioedflegdkaa
open Go Go.Ab Go.Proofs Go.Fs
def lKeepsG_enc : (Int) × (List Stp) × (Bool) → List V := fun ⟨a, sl, f⟩ => [.c (.s (.int .u8 a)), .c (.s (.list 6 (encs stpE sl) f))]
theorem lKeepsG_inj : ∀ x y, lKeepsG_enc x = lKeepsG_enc y → x = y := by
  rintro ⟨a, sl, f⟩ ⟨a2, sl2, f2⟩ h
  simp only [lKeepsG_enc, List.cons.injEq, V.c.injEq, V.agg.injEq, C.s.injEq, S.list.injEq, S.str.injEq, S.int.injEq, S.bool.injEq, S.fn.injEq, S.cref.injEq, strE_inj, true_and, and_true, stpE_inj] at h
  simp_all
noncomputable def lKeepsG : List V → Option (V) := specE lKeepsG_enc (fun ⟨a, sl, f⟩ => 0 ≤ a ∧ a < 256) (fun ⟨a, sl, f⟩ => .c (.s (.bool true)))
theorem lKeepsG_eq {a : Int} {sl : List Stp} {f : Bool} [Decidable (0 ≤ a ∧ a < 256)] : lKeepsG [.c (.s (.int .u8 a)), .c (.s (.list 6 (encs stpE sl) f))] = if 0 ≤ a ∧ a < 256 then some (.c (.s (.bool true))) else none := specE_eq lKeepsG_inj (a, sl, f)
theorem lKeepsG_call {a : Int} {sl : List Stp} {f : Bool} {gt : Bool} {K : V → Prop} : callE lKeepsG [.c (.s (.int .u8 a)), .c (.s (.list 6 (encs stpE sl) f))] gt K = ((gt = true → 0 ≤ a ∧ a < 256) ∧ bindV (ifV gt (.c (.s (.bool true)))) K) := by
  have := Classical.propDecidable (0 ≤ a ∧ a < 256)
  exact callE_of lKeepsG_eq
theorem lKeepsG_callo {a : Int} {sl : List Stp} {f : Bool} {m : Nat → Option Ab.Obj} {locs : List Nat} {K : V → (Nat → Option Ab.Obj) → Prop} : callO lKeepsG (some [.c (.s (.int .u8 a)), .c (.s (.list 6 (encs stpE sl) f))]) m locs K = ((0 ≤ a ∧ a < 256) ∧ K (.c (.s (.bool true))) (sealW m locs (.c (.s (.bool true))))) := by
  have := Classical.propDecidable (0 ≤ a ∧ a < 256)
  exact callO_of lKeepsG_eq
attribute [go_sem] lKeepsG_call lKeepsG_callo

def sc_law18_LogKeeps : SC := .seq (.reg [⟨some 4, .mv, [.k (.c (.s (.bool false)))], none⟩]) (.seq (.reg [⟨some 17, .mv, [.t 0], none⟩,
⟨some 18, .bin .rem, [.t 17, .k (.c (.s (.int .u8 52)))], none⟩,
⟨some 19, .conv .i64, [.t 18], none⟩,
⟨some 20, .bin .add, [.k (.c (.s (.int .i64 9))), .t 19], none⟩,
⟨some 21, .call 26, [.t 20], none⟩,
⟨some 16, .mv, [.t 21], none⟩,
⟨some 22, .ext 0, [.t 16], none⟩,
⟨some 23, .ext 1, [.t 16], none⟩,
⟨some 5, .alloc [.list 0 [] true, .list 0 [] true], [], none⟩,
⟨none, .store 2 true, [.t 5, .t 22], none⟩,
⟨some 6, .mv, [.t 23], none⟩]) (.seq (.seq (.reg [⟨some 24, .mv, [.t 6], none⟩,
⟨some 25, .bin .neq, [.t 24, .k (.c (.s (.int .i64 0)))], none⟩]) (.cond (.t 25) (.seq (.reg [⟨some 4, .mv, [.k (.c (.s (.bool false)))], none⟩]) (.ret)) (.skip))) (.seq (.reg [⟨some 7, .mv, [.k (.c (.s (.list 0 [] true)))], none⟩]) (.seq (.seq (.reg [⟨some 8, .mv, [.k (.c (.s (.int .i64 0)))], none⟩]) (.block 0 (.loop (.seq (.seq (.reg [⟨some 26, .mv, [.t 8], none⟩,
⟨some 27, .mv, [.t 1], none⟩,
⟨some 28, .len false, [.t 27], none⟩,
⟨some 29, .bin .lss, [.t 26, .t 28], none⟩,
⟨some 30, .mv, [.t 29], none⟩,
⟨some 31, .mv, [.t 8], some (30, true)⟩,
⟨some 32, .bin .lss, [.t 31, .k (.c (.s (.int .i64 20)))], some (30, true)⟩,
⟨some 33, .pick, [.t 30, .t 32, .k (.c (.s (.bool false)))], none⟩]) (.cond (.t 33) (.skip) (.exit 0))) (.seq (.block 1 (.seq (.reg [⟨some 36, .mv, [.t 1], none⟩,
⟨some 37, .mv, [.t 8], none⟩,
⟨some 38, .iadr 6, [.t 36, .t 37], none⟩,
⟨some 39, .load 6 true, [.t 38], none⟩,
⟨some 9, .alloc [.bool false, .bool false, .int .i64 0, .int .i64 0, .str [], .list 0 [] true], [], none⟩,
⟨none, .store 6 true, [.t 9, .t 39], none⟩]) (.seq (.seq (.reg [⟨some 40, .fadr 4, [.t 9], none⟩,
⟨some 41, .load 1 false, [.t 40], none⟩,
⟨some 42, .len true, [.t 41], none⟩,
⟨some 43, .bin .gtr, [.t 42, .k (.c (.s (.int .i64 200)))], none⟩,
⟨some 44, .mv, [.t 43], none⟩,
⟨some 45, .fadr 5, [.t 9], some (44, false)⟩,
⟨some 46, .load 1 false, [.t 45], some (44, false)⟩,
⟨some 47, .len false, [.t 46], some (44, false)⟩,
⟨some 48, .bin .gtr, [.t 47, .k (.c (.s (.int .i64 60)))], some (44, false)⟩,
⟨some 49, .pick, [.t 44, .k (.c (.s (.bool true))), .t 48], none⟩]) (.cond (.t 49) (.seq (.reg [⟨some 50, .call 15, [], none⟩,
⟨some 4, .mv, [.t 50], none⟩]) (.ret)) (.skip))) (.seq (.reg [⟨some 52, .load 2 true, [.t 5], none⟩,
⟨some 53, .mv, [.t 7], none⟩,
⟨some 54, .load 6 true, [.t 9], none⟩,
⟨some 55, .call 28, [.t 52, .t 53, .t 54], none⟩,
⟨some 51, .mv, [.t 55], none⟩,
⟨some 56, .ext 0, [.t 51], none⟩,
⟨some 57, .ext 1, [.t 51], none⟩,
⟨some 10, .mv, [.t 56], none⟩,
⟨some 11, .mv, [.t 57], none⟩]) (.seq (.seq (.reg [⟨some 58, .mv, [.t 10], none⟩,
⟨some 59, .len false, [.t 58], none⟩,
⟨some 60, .bin .eql, [.t 59, .k (.c (.s (.int .i64 0)))], none⟩]) (.cond (.t 60) (.exit 1) (.skip))) (.seq (.seq (.reg [⟨some 61, .fadr 1, [.t 9], none⟩,
⟨some 62, .load 1 false, [.t 61], none⟩]) (.cond (.t 62) (.regD [⟨some 63, .load 2 true, [.t 5], none⟩,
⟨some 64, .mv, [.t 10], none⟩,
⟨some 65, .fadr 3, [.t 9], none⟩,
⟨some 66, .load 1 false, [.t 65], none⟩,
⟨some 67, .call 27, [.t 63, .t 64, .t 66], none⟩,
⟨some 68, .fadr 5, [.t 9], none⟩,
⟨some 69, .load 1 false, [.t 68], none⟩,
⟨some 70, .call 29, [.t 67, .t 69], none⟩,
⟨none, .store 2 true, [.t 5, .t 70], none⟩] [(4, 5), (4, 6)]) (.reg [⟨some 71, .load 2 true, [.t 5], none⟩,
⟨some 72, .mv, [.t 10], none⟩,
⟨some 73, .mv, [.t 10], none⟩,
⟨some 74, .len false, [.t 73], none⟩,
⟨some 75, .call 27, [.t 71, .t 72, .t 74], none⟩,
⟨none, .store 2 true, [.t 5, .t 75], none⟩]))) (.seq (.reg [⟨some 77, .load 2 true, [.t 5], none⟩,
⟨some 78, .call 16, [.t 77], none⟩,
⟨some 76, .mv, [.t 78], none⟩,
⟨some 79, .ext 0, [.t 76], none⟩,
⟨some 80, .ext 1, [.t 76], none⟩,
⟨some 12, .alloc [.int .i64 0, .list 0 [] true, .int .i64 0], [], none⟩,
⟨none, .store 3 true, [.t 12, .t 79], none⟩,
⟨some 13, .mv, [.t 80], none⟩]) (.seq (.reg [⟨some 81, .fadr 1, [.t 12], none⟩,
⟨some 82, .load 1 false, [.t 81], none⟩,
⟨some 83, .call 19, [.t 82], none⟩,
⟨some 14, .mv, [.t 83], none⟩]) (.seq (.reg [⟨some 84, .mv, [.t 14], none⟩,
⟨some 85, .mv, [.t 11], none⟩,
⟨some 86, .call 18, [.t 84, .t 85], none⟩,
⟨some 15, .mv, [.t 86], none⟩]) (.seq (.seq (.reg [⟨some 87, .mv, [.t 13], none⟩,
⟨some 88, .bin .neq, [.t 87, .k (.c (.s (.int .i64 0)))], none⟩,
⟨some 89, .mv, [.t 88], none⟩,
⟨some 90, .mv, [.t 15], some (89, false)⟩,
⟨some 91, .not, [.t 90], some (89, false)⟩,
⟨some 92, .mv, [.t 91], some (89, false)⟩,
⟨some 93, .fadr 1, [.t 9], some (92, true)⟩,
⟨some 94, .load 1 false, [.t 93], some (92, true)⟩,
⟨some 95, .not, [.t 94], some (92, true)⟩,
⟨some 96, .mv, [.t 95], some (92, true)⟩,
⟨some 97, .fadr 3, [.t 9], some (96, false)⟩,
⟨some 98, .load 1 false, [.t 97], some (96, false)⟩,
⟨some 99, .mv, [.t 10], some (96, false)⟩,
⟨some 100, .len false, [.t 99], some (96, false)⟩,
⟨some 101, .bin .geq, [.t 98, .t 100], some (96, false)⟩,
⟨some 102, .pick, [.t 96, .k (.c (.s (.bool true))), .t 101], some (92, true)⟩,
⟨some 103, .mv, [.t 102], some (92, true)⟩,
⟨some 104, .mv, [.t 14], some (103, false)⟩,
⟨some 105, .mv, [.t 7], some (103, false)⟩,
⟨some 106, .call 18, [.t 104, .t 105], some (103, false)⟩,
⟨some 107, .not, [.t 106], some (103, false)⟩,
⟨some 108, .pick, [.t 103, .k (.c (.s (.bool true))), .t 107], some (92, true)⟩,
⟨some 109, .pick, [.t 92, .t 108, .k (.c (.s (.bool false)))], some (89, false)⟩,
⟨some 110, .pick, [.t 89, .k (.c (.s (.bool true))), .t 109], none⟩]) (.cond (.t 110) (.seq (.reg [⟨some 4, .mv, [.k (.c (.s (.bool false)))], none⟩]) (.ret)) (.skip))) (.reg [⟨some 111, .mv, [.t 14], none⟩,
⟨some 7, .mv, [.t 111], none⟩]))))))))))) (.reg [⟨some 34, .mv, [.t 8], none⟩,
⟨some 35, .bin .add, [.t 34, .k (.c (.s (.int .i64 1)))], none⟩,
⟨some 8, .mv, [.t 35], none⟩])))))) (.seq (.reg [⟨some 112, .call 15, [], none⟩,
⟨some 4, .mv, [.t 112], none⟩]) (.ret))))))
noncomputable def G_law18_LogKeeps : FuncId → Ab.Spec := addS (addS (addS (addS (addS (addS (addS (addS (noS) 26 (plain newG)) 15 (plain awakeLG)) 28 (plain planG)) 27 (plain runG)) 29 (plain crashG)) 16 (plain scanG)) 19 (plain refsRG)) 18 (plain sameLG)
theorem G_law18_LogKeeps_ok : ∀ f, Contract Try.prog f (G_law18_LogKeeps f) := (addS_ok (addS_ok (addS_ok (addS_ok (addS_ok (addS_ok (addS_ok (addS_ok (noS_ok _) contract_disk_New) contract_law18_awake) contract_law18_plan) contract_disk_Run) contract_disk_Crash) contract_log_Scan) contract_law18_Refs) contract_ref18_Records)
theorem G6_26 : G_law18_LogKeeps 26 = plain newG := by simp [G_law18_LogKeeps, addS]
theorem G6_15 : G_law18_LogKeeps 15 = plain awakeLG := by simp [G_law18_LogKeeps, addS]
theorem G6_28 : G_law18_LogKeeps 28 = plain planG := by simp [G_law18_LogKeeps, addS]
theorem G6_27 : G_law18_LogKeeps 27 = plain runG := by simp [G_law18_LogKeeps, addS]
theorem G6_29 : G_law18_LogKeeps 29 = plain crashG := by simp [G_law18_LogKeeps, addS]
theorem G6_16 : G_law18_LogKeeps 16 = plain scanG := by simp [G_law18_LogKeeps, addS]
theorem G6_19 : G_law18_LogKeeps 19 = plain refsRG := by simp [G_law18_LogKeeps, addS]
theorem G6_18 : G_law18_LogKeeps 18 = plain sameLG := by simp [G_law18_LogKeeps, addS]
set_option maxHeartbeats 16000000 in
set_option maxRecDepth 1000000 in
set_option linter.unusedSimpArgs false in
set_option linter.unusedVariables false in
theorem contract_law18_LogKeeps : Contract Try.prog 6 (plain lKeepsG) := by
  have hb : ∃ c, Try.f6.body = some c ∧ codeOk 113 c = true ∧ cCode Try.prog c = sc_law18_LogKeeps := ⟨_, rfl, by kernel_rfl, by kernel_rfl⟩
  obtain ⟨c, hb1, hb2, hb3⟩ := hb
  refine contract_of (n := 2) G_law18_LogKeeps_ok hB hD Try.func6 hb1 (by kernel_rfl) hb2 hb3 (rs := [.tmp 4]) (by kernel_rfl) (by decide) ?_ ?_
  · intro args x h
    obtain ⟨y, hy, -⟩ := Option.map_eq_some_iff.1 h
    obtain ⟨⟨a, sl, f⟩, rfl, -⟩ := specE_some hy
    rfl
  · intro args r hr
    obtain ⟨y, hy, rfl⟩ := Option.map_eq_some_iff.1 hr
    obtain ⟨⟨a, sl, f⟩, rfl, hc, rfl⟩ := specE_some hy
    clear hr hy
    have hc : 0 ≤ a ∧ a < 256 := hc
    change awp _ _ (postQ _ (.v (.c (.s (.bool true))))) _
    unfold lKeepsG_enc sc_law18_LogKeeps
    obtain ⟨a0, a1⟩ := hc
    have hwr := wrap64 (n := a % 52) (by omega)
    obtain ⟨N, hN, hN1, hN2⟩ : ∃ N : Nat, (9 : Int) + a % 52 = (N : Int) ∧ 9 ≤ N ∧ N ≤ 60 := ⟨(9 + a % 52).toNat, by omega, by omega, by omega⟩
    obtain ⟨hnd, hne⟩ := new_is (N := N) (by omega)
    have hgo := rest_new (N := N) (by omega)
    generalize newD N = d0 at *
    simp (maxSteps := 4000000) only [↓exT_call G6_26, ↓exT_callo G6_26, ↓exT_calloG G6_26, ↓exT_call G6_15, ↓exT_callo G6_15, ↓exT_calloG G6_15, ↓exT_call G6_28, ↓exT_callo G6_28, ↓exT_calloG G6_28, ↓exT_call G6_27, ↓exT_callo G6_27, ↓exT_calloG G6_27, ↓exT_call G6_29, ↓exT_callo G6_29, ↓exT_calloG G6_29, ↓exT_call G6_16, ↓exT_callo G6_16, ↓exT_calloG G6_16, ↓exT_call G6_19, ↓exT_callo G6_19, ↓exT_calloG G6_19, ↓exT_call G6_18, ↓exT_callo G6_18, ↓exT_calloG G6_18, hwr, hN, hnd, hne, go_sem, Nat.reduceAdd, Nat.reduceSub, Nat.reduceMul, Nat.reduceEqDiff, Nat.reduceLeDiff, Nat.reduceLT, Nat.reduceBEq, Int.reduceLE, Int.reduceLT, Int.reduceToNat, Int.reduceNeg, Int.reduceAdd, Int.reduceSub, Int.reduceMul, ↓reduceIte]
    repeat (refine ⟨by omega, ?_⟩)
    refine awp_loopM (α := Nat × Disk × Nat × List Rec × Nat × Bool) (fun y => [(1, .c (.s (.list 6 (encs stpE sl) f))), (5, .c (.ptr 5 0)), (7, .c (.s (.list y.2.2.2.2.1 (encs recE y.2.2.2.1) y.2.2.2.2.2))), (8, .c (.s (.int .i64 y.1)))])
      (fun y => [(5, .box [.s (.list 1 (encs strE (y.2.1).sectors) false), .s (.list 2 (encs wrE (y.2.1).cache) false)])]) (fun y => sl.length - y.1) (0, d0, 0, [], 0, true) (fun y => y.1 ≤ sl.length ∧ y.1 ≤ 20 ∧ AtRest N y.2.1 y.2.2.1 y.2.2.2.1 ∧ (y.2.2.2.2.1 = 2 ∨ y.2.2.2.1 = [])) ⟨Nat.zero_le _, Nat.zero_le _, hgo, .inr rfl⟩ ?_ ?_
    · refine Weak.meets ?_
      simp (maxSteps := 4000000) only [↓exT_call G6_26, ↓exT_callo G6_26, ↓exT_calloG G6_26, ↓exT_call G6_15, ↓exT_callo G6_15, ↓exT_calloG G6_15, ↓exT_call G6_28, ↓exT_callo G6_28, ↓exT_calloG G6_28, ↓exT_call G6_27, ↓exT_callo G6_27, ↓exT_calloG G6_27, ↓exT_call G6_29, ↓exT_callo G6_29, ↓exT_calloG G6_29, ↓exT_call G6_16, ↓exT_callo G6_16, ↓exT_calloG G6_16, ↓exT_call G6_19, ↓exT_callo G6_19, ↓exT_calloG G6_19, ↓exT_call G6_18, ↓exT_callo G6_18, ↓exT_calloG G6_18, go_sem, Nat.reduceAdd, Nat.reduceSub, Nat.reduceMul, Nat.reduceEqDiff, Nat.reduceLeDiff, Nat.reduceLT, Nat.reduceBEq, Int.reduceLE, Int.reduceLT, Int.reduceToNat, Int.reduceNeg, Int.reduceAdd, Int.reduceSub, Int.reduceMul, ↓reduceIte]
      rfl
    rintro ⟨x, d, gn, rs, k, fl⟩ ⟨hx, hx2, hg, hk⟩
    simp only at hx hx2 hg hk
    obtain ⟨c1, c2, c3⟩ := rest_len hg
    have c1 : d.sectors.length < 4000000 := by omega
    have c2 : d.cache.length < 4000000 := by omega
    have c3' : rs.length < 4000000 := by omega
    have hkr : (k = 2 ∨ rs = []) = True := eq_true hk
    have hch := hg.held.inv.chain
    by_cases hx1 : x < sl.length
    case neg =>
      have hxi : ¬ (x : Int) < (sl.length : Int) := by omega
      simp (maxSteps := 4000000) only [↓exT_call G6_26, ↓exT_callo G6_26, ↓exT_calloG G6_26, ↓exT_call G6_15, ↓exT_callo G6_15, ↓exT_calloG G6_15, ↓exT_call G6_28, ↓exT_callo G6_28, ↓exT_calloG G6_28, ↓exT_call G6_27, ↓exT_callo G6_27, ↓exT_calloG G6_27, ↓exT_call G6_29, ↓exT_callo G6_29, ↓exT_calloG G6_29, ↓exT_call G6_16, ↓exT_callo G6_16, ↓exT_calloG G6_16, ↓exT_call G6_19, ↓exT_callo G6_19, ↓exT_calloG G6_19, ↓exT_call G6_18, ↓exT_callo G6_18, ↓exT_calloG G6_18, hxi, go_sem, Nat.reduceAdd, Nat.reduceSub, Nat.reduceMul, Nat.reduceEqDiff, Nat.reduceLeDiff, Nat.reduceLT, Nat.reduceBEq, Int.reduceLE, Int.reduceLT, Int.reduceToNat, Int.reduceNeg, Int.reduceAdd, Int.reduceSub, Int.reduceMul, ↓reduceIte]
    have hxi : (x : Int) < (sl.length : Int) := by omega
    by_cases hx3 : x < 20
    case neg =>
      have hxj : ¬ (x : Int) < 20 := by omega
      simp (maxSteps := 4000000) only [↓exT_call G6_26, ↓exT_callo G6_26, ↓exT_calloG G6_26, ↓exT_call G6_15, ↓exT_callo G6_15, ↓exT_calloG G6_15, ↓exT_call G6_28, ↓exT_callo G6_28, ↓exT_calloG G6_28, ↓exT_call G6_27, ↓exT_callo G6_27, ↓exT_calloG G6_27, ↓exT_call G6_29, ↓exT_callo G6_29, ↓exT_calloG G6_29, ↓exT_call G6_16, ↓exT_callo G6_16, ↓exT_calloG G6_16, ↓exT_call G6_19, ↓exT_callo G6_19, ↓exT_calloG G6_19, ↓exT_call G6_18, ↓exT_callo G6_18, ↓exT_calloG G6_18, hxi, hxj, go_sem, Nat.reduceAdd, Nat.reduceSub, Nat.reduceMul, Nat.reduceEqDiff, Nat.reduceLeDiff, Nat.reduceLT, Nat.reduceBEq, Int.reduceLE, Int.reduceLT, Int.reduceToNat, Int.reduceNeg, Int.reduceAdd, Int.reduceSub, Int.reduceMul, ↓reduceIte]
    have hxj : (x : Int) < 20 := by omega
    generalize hs : sl.getD x default = s at *
    obtain ⟨rn, cut, n, most, t, keep, h1⟩ := s
    by_cases htl : 200 < (t.length : Int)
    case pos =>
      simp (maxSteps := 4000000) only [↓exT_call G6_26, ↓exT_callo G6_26, ↓exT_calloG G6_26, ↓exT_call G6_15, ↓exT_callo G6_15, ↓exT_calloG G6_15, ↓exT_call G6_28, ↓exT_callo G6_28, ↓exT_calloG G6_28, ↓exT_call G6_27, ↓exT_callo G6_27, ↓exT_calloG G6_27, ↓exT_call G6_29, ↓exT_callo G6_29, ↓exT_calloG G6_29, ↓exT_call G6_16, ↓exT_callo G6_16, ↓exT_calloG G6_16, ↓exT_call G6_19, ↓exT_callo G6_19, ↓exT_calloG G6_19, ↓exT_call G6_18, ↓exT_callo G6_18, ↓exT_calloG G6_18, hxi, hxj, hs, htl, go_sem, Nat.reduceAdd, Nat.reduceSub, Nat.reduceMul, Nat.reduceEqDiff, Nat.reduceLeDiff, Nat.reduceLT, Nat.reduceBEq, Int.reduceLE, Int.reduceLT, Int.reduceToNat, Int.reduceNeg, Int.reduceAdd, Int.reduceSub, Int.reduceMul, ↓reduceIte]
    by_cases hkl : 60 < (keep.length : Int)
    case pos =>
      simp (maxSteps := 4000000) only [↓exT_call G6_26, ↓exT_callo G6_26, ↓exT_calloG G6_26, ↓exT_call G6_15, ↓exT_callo G6_15, ↓exT_calloG G6_15, ↓exT_call G6_28, ↓exT_callo G6_28, ↓exT_calloG G6_28, ↓exT_call G6_27, ↓exT_callo G6_27, ↓exT_calloG G6_27, ↓exT_call G6_29, ↓exT_callo G6_29, ↓exT_calloG G6_29, ↓exT_call G6_16, ↓exT_callo G6_16, ↓exT_calloG G6_16, ↓exT_call G6_19, ↓exT_callo G6_19, ↓exT_calloG G6_19, ↓exT_call G6_18, ↓exT_callo G6_18, ↓exT_calloG G6_18, hxi, hxj, hs, htl, hkl, go_sem, Nat.reduceAdd, Nat.reduceSub, Nat.reduceMul, Nat.reduceEqDiff, Nat.reduceLeDiff, Nat.reduceLT, Nat.reduceBEq, Int.reduceLE, Int.reduceLT, Int.reduceToNat, Int.reduceNeg, Int.reduceAdd, Int.reduceSub, Int.reduceMul, ↓reduceIte]
    have hkl2 : keep.length < 4000000 := by omega
    have hpl := plan_lens d rs rn n t
    have hst := keeps_plan hg rn n (t := t) (by omega)
    generalize hP : planD d rs rn n t = P at *
    have hP2 : P.1.length < 4000000 := by omega
    by_cases hP0 : P.1 = []
    case pos =>
      have hP0' : (P.1.length : Int) = 0 := by rw [hP0]; rfl
      simp (maxSteps := 4000000) only [↓exT_call G6_26, ↓exT_callo G6_26, ↓exT_calloG G6_26, ↓exT_call G6_15, ↓exT_callo G6_15, ↓exT_calloG G6_15, ↓exT_call G6_28, ↓exT_callo G6_28, ↓exT_calloG G6_28, ↓exT_call G6_27, ↓exT_callo G6_27, ↓exT_calloG G6_27, ↓exT_call G6_29, ↓exT_callo G6_29, ↓exT_calloG G6_29, ↓exT_call G6_16, ↓exT_callo G6_16, ↓exT_calloG G6_16, ↓exT_call G6_19, ↓exT_callo G6_19, ↓exT_calloG G6_19, ↓exT_call G6_18, ↓exT_callo G6_18, ↓exT_calloG G6_18, hxi, hxj, hs, htl, hkl, c1, c2, hkr, c3', hch, hP, hP0', go_sem, Nat.reduceAdd, Nat.reduceSub, Nat.reduceMul, Nat.reduceEqDiff, Nat.reduceLeDiff, Nat.reduceLT, Nat.reduceBEq, Int.reduceLE, Int.reduceLT, Int.reduceToNat, Int.reduceNeg, Int.reduceAdd, Int.reduceSub, Int.reduceMul, ↓reduceIte]
      exact ⟨by omega, ⟨x + 1, d, gn, rs, k, fl⟩, ⟨by simp only; omega, by simp only; omega, hg, hk⟩, by simp only; omega, ⟨⟨rfl, rfl, rfl⟩, by simp⟩, rfl, rfl⟩
    have hP0' : ¬ (P.1.length : Int) = 0 := by have : P.1.length ≠ 0 := fun e => hP0 (List.length_eq_zero_iff.1 e); omega
    obtain ⟨g', hst⟩ := hst.resolve_left hP0
    cases cut with
    | false =>
      have hru : runN d P.1 (P.1.length : Int) = runD d P.1 := run_lenN
      have hg' := rest_run hg hst
      generalize runD d P.1 = d1 at *
      obtain ⟨e1, e2, e3⟩ := rest_len hg'
      have e1 : d1.sectors.length < 4000000 := by omega
      have e2 : d1.cache.length < 4000000 := by omega
      have e3' : P.2.length < 4000000 := by omega
      have hsc := held_gen hg'.held
      simp (maxSteps := 4000000) only [↓exT_call G6_26, ↓exT_callo G6_26, ↓exT_calloG G6_26, ↓exT_call G6_15, ↓exT_callo G6_15, ↓exT_calloG G6_15, ↓exT_call G6_28, ↓exT_callo G6_28, ↓exT_calloG G6_28, ↓exT_call G6_27, ↓exT_callo G6_27, ↓exT_calloG G6_27, ↓exT_call G6_29, ↓exT_callo G6_29, ↓exT_calloG G6_29, ↓exT_call G6_16, ↓exT_callo G6_16, ↓exT_calloG G6_16, ↓exT_call G6_19, ↓exT_callo G6_19, ↓exT_calloG G6_19, ↓exT_call G6_18, ↓exT_callo G6_18, ↓exT_calloG G6_18, hxi, hxj, hs, htl, hkl, c1, c2, hkr, c3', hch, hP, hP0', hP2, hru, e1, e2, hsc.1, hsc.2.2.1, e3', go_sem, Nat.reduceAdd, Nat.reduceSub, Nat.reduceMul, Nat.reduceEqDiff, Nat.reduceLeDiff, Nat.reduceLT, Nat.reduceBEq, Int.reduceLE, Int.reduceLT, Int.reduceToNat, Int.reduceNeg, Int.reduceAdd, Int.reduceSub, Int.reduceMul, ↓reduceIte]
      exact ⟨by omega, ⟨x + 1, d1, g', P.2, 2, false⟩, ⟨by simp only; omega, by simp only; omega, hg', .inl rfl⟩, by simp only; omega, ⟨⟨rfl, rfl, rfl⟩, by simp⟩, rfl, rfl⟩
    | true =>
      have hrl := run_len (P.1.take most.toNat) d
      have hcr := rest_crash hg hst most keep
      have hru : runN d P.1 most = runD d (P.1.take most.toNat) := rfl
      generalize runD d (P.1.take most.toNat) = d2 at *
      have r1 : d2.sectors.length < 4000000 := by omega
      have r2 : d2.cache.length < 4000000 := by omega
      generalize hcd : crashD d2 keep = d1 at *
      rcases hcr with ⟨hm, hg'⟩ | hg'
      · obtain ⟨e1, e2, e3⟩ := rest_len hg'
        have e1 : d1.sectors.length < 4000000 := by omega
        have e2 : d1.cache.length < 4000000 := by omega
        have hsc := held_gen hg'.held
        have hm' : ¬ (P.1.length : Int) ≤ most := by omega
        by_cases heq : rs = P.2
        · have heq' : decide (rs = P.2) = true := decide_eq_true heq
          simp (maxSteps := 4000000) only [↓exT_call G6_26, ↓exT_callo G6_26, ↓exT_calloG G6_26, ↓exT_call G6_15, ↓exT_callo G6_15, ↓exT_calloG G6_15, ↓exT_call G6_28, ↓exT_callo G6_28, ↓exT_calloG G6_28, ↓exT_call G6_27, ↓exT_callo G6_27, ↓exT_calloG G6_27, ↓exT_call G6_29, ↓exT_callo G6_29, ↓exT_calloG G6_29, ↓exT_call G6_16, ↓exT_callo G6_16, ↓exT_calloG G6_16, ↓exT_call G6_19, ↓exT_callo G6_19, ↓exT_calloG G6_19, ↓exT_call G6_18, ↓exT_callo G6_18, ↓exT_calloG G6_18, hxi, hxj, hs, htl, hkl, hkl2, c1, c2, hkr, c3', hch, hP, hP0', hP2, hru, r1, r2, hcd, e1, e2, hsc.1, hsc.2.2.1, heq', go_sem, Nat.reduceAdd, Nat.reduceSub, Nat.reduceMul, Nat.reduceEqDiff, Nat.reduceLeDiff, Nat.reduceLT, Nat.reduceBEq, Int.reduceLE, Int.reduceLT, Int.reduceToNat, Int.reduceNeg, Int.reduceAdd, Int.reduceSub, Int.reduceMul, ↓reduceIte]
          exact ⟨by omega, ⟨x + 1, d1, gn, rs, 2, false⟩, ⟨by simp only; omega, by simp only; omega, hg', .inl rfl⟩, by simp only; omega, ⟨⟨rfl, rfl, rfl⟩, by simp⟩, rfl, rfl⟩
        · have heq' : decide (rs = P.2) = false := decide_eq_false heq
          simp (maxSteps := 4000000) only [↓exT_call G6_26, ↓exT_callo G6_26, ↓exT_calloG G6_26, ↓exT_call G6_15, ↓exT_callo G6_15, ↓exT_calloG G6_15, ↓exT_call G6_28, ↓exT_callo G6_28, ↓exT_calloG G6_28, ↓exT_call G6_27, ↓exT_callo G6_27, ↓exT_calloG G6_27, ↓exT_call G6_29, ↓exT_callo G6_29, ↓exT_calloG G6_29, ↓exT_call G6_16, ↓exT_callo G6_16, ↓exT_calloG G6_16, ↓exT_call G6_19, ↓exT_callo G6_19, ↓exT_calloG G6_19, ↓exT_call G6_18, ↓exT_callo G6_18, ↓exT_calloG G6_18, hxi, hxj, hs, htl, hkl, hkl2, c1, c2, hkr, c3', hch, hP, hP0', hP2, hru, r1, r2, hcd, e1, e2, hsc.1, hsc.2.2.1, heq', hm', go_sem, Nat.reduceAdd, Nat.reduceSub, Nat.reduceMul, Nat.reduceEqDiff, Nat.reduceLeDiff, Nat.reduceLT, Nat.reduceBEq, Int.reduceLE, Int.reduceLT, Int.reduceToNat, Int.reduceNeg, Int.reduceAdd, Int.reduceSub, Int.reduceMul, ↓reduceIte]
          exact ⟨by omega, ⟨x + 1, d1, gn, rs, 2, false⟩, ⟨by simp only; omega, by simp only; omega, hg', .inl rfl⟩, by simp only; omega, ⟨⟨rfl, rfl, rfl⟩, by simp⟩, rfl, rfl⟩
      · obtain ⟨e1, e2, e3⟩ := rest_len hg'
        have e1 : d1.sectors.length < 4000000 := by omega
        have e2 : d1.cache.length < 4000000 := by omega
        have e3' : P.2.length < 4000000 := by omega
        have hsc := held_gen hg'.held
        simp (maxSteps := 4000000) only [↓exT_call G6_26, ↓exT_callo G6_26, ↓exT_calloG G6_26, ↓exT_call G6_15, ↓exT_callo G6_15, ↓exT_calloG G6_15, ↓exT_call G6_28, ↓exT_callo G6_28, ↓exT_calloG G6_28, ↓exT_call G6_27, ↓exT_callo G6_27, ↓exT_calloG G6_27, ↓exT_call G6_29, ↓exT_callo G6_29, ↓exT_calloG G6_29, ↓exT_call G6_16, ↓exT_callo G6_16, ↓exT_calloG G6_16, ↓exT_call G6_19, ↓exT_callo G6_19, ↓exT_calloG G6_19, ↓exT_call G6_18, ↓exT_callo G6_18, ↓exT_calloG G6_18, hxi, hxj, hs, htl, hkl, hkl2, c1, c2, hkr, c3', hch, hP, hP0', hP2, hru, r1, r2, hcd, e1, e2, hsc.1, hsc.2.2.1, e3', go_sem, Nat.reduceAdd, Nat.reduceSub, Nat.reduceMul, Nat.reduceEqDiff, Nat.reduceLeDiff, Nat.reduceLT, Nat.reduceBEq, Int.reduceLE, Int.reduceLT, Int.reduceToNat, Int.reduceNeg, Int.reduceAdd, Int.reduceSub, Int.reduceMul, ↓reduceIte]
        exact ⟨by omega, ⟨x + 1, d1, g', P.2, 2, false⟩, ⟨by simp only; omega, by simp only; omega, hg', .inl rfl⟩, by simp only; omega, ⟨⟨rfl, rfl, rfl⟩, by simp⟩, rfl, rfl⟩

end Go.Proofs.Ytniioedflegdkaa
