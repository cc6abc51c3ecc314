/- The statements on revisions, as functions: KeepCrash. -/
import Derived.Test.YtniioedflegdkaaG16
set_option linter.all false
namespace Go.Proofs.Ytniioedflegdkaa
open Go Go.Ab Go.Proofs Go.Fs
def kstpE (s : KStp) : List S := [.bool s.cut, .int .i64 s.most, .str s.t, .list 1 (encs numE s.keep) s.h]
theorem kstpE_eq {s : KStp} : kstpE s = [.bool s.cut, .int .i64 s.most, .str s.t, .list 1 (encs numE s.keep) s.h] := nr rfl
theorem kstpE_inj {a b : List KStp} : (encs kstpE a = encs kstpE b) = (a = b) := encs_inj fun x y e => by
  simp only [kstpE, List.cons.injEq, S.int.injEq, S.str.injEq, S.bool.injEq, S.list.injEq, numE_inj, true_and, and_true] at e
  cases x; cases y; simp_all
attribute [go_sem] kstpE_eq
def kCrashG_enc : (Int) × (List KStp) × (Bool) → List V := fun ⟨a, sl, f⟩ => [.c (.s (.int .u8 a)), .c (.s (.list 4 (encs kstpE sl) f))]
theorem kCrashG_inj : ∀ x y, kCrashG_enc x = kCrashG_enc y → x = y := by
  rintro ⟨a, sl, f⟩ ⟨a2, sl2, f2⟩ h
  simp only [kCrashG_enc, List.cons.injEq, V.c.injEq, V.agg.injEq, C.s.injEq, S.list.injEq, S.str.injEq, S.int.injEq, S.bool.injEq, S.fn.injEq, S.cref.injEq, strE_inj, true_and, and_true, kstpE_inj] at h
  simp_all
noncomputable def kCrashG : List V → Option (V) := specE kCrashG_enc (fun ⟨a, sl, f⟩ => 0 ≤ a ∧ a < 256) (fun ⟨a, sl, f⟩ => .c (.s (.bool true)))
theorem kCrashG_eq {a : Int} {sl : List KStp} {f : Bool} [Decidable (0 ≤ a ∧ a < 256)] : kCrashG [.c (.s (.int .u8 a)), .c (.s (.list 4 (encs kstpE sl) f))] = if 0 ≤ a ∧ a < 256 then some (.c (.s (.bool true))) else none := specE_eq kCrashG_inj (a, sl, f)
theorem kCrashG_call {a : Int} {sl : List KStp} {f : Bool} {gt : Bool} {K : V → Prop} : callE kCrashG [.c (.s (.int .u8 a)), .c (.s (.list 4 (encs kstpE sl) f))] gt K = ((gt = true → 0 ≤ a ∧ a < 256) ∧ bindV (ifV gt (.c (.s (.bool true)))) K) := by
  have := Classical.propDecidable (0 ≤ a ∧ a < 256)
  exact callE_of kCrashG_eq
theorem kCrashG_callo {a : Int} {sl : List KStp} {f : Bool} {m : Nat → Option Ab.Obj} {locs : List Nat} {K : V → (Nat → Option Ab.Obj) → Prop} : callO kCrashG (some [.c (.s (.int .u8 a)), .c (.s (.list 4 (encs kstpE sl) f))]) m locs K = ((0 ≤ a ∧ a < 256) ∧ K (.c (.s (.bool true))) (sealW m locs (.c (.s (.bool true))))) := by
  have := Classical.propDecidable (0 ≤ a ∧ a < 256)
  exact callO_of kCrashG_eq
attribute [go_sem] kCrashG_call kCrashG_callo

def sc_law19_KeepCrash : SC := .seq (.reg [⟨some 4, .mv, [.k (.c (.s (.bool false)))], none⟩]) (.seq (.reg [⟨some 19, .mv, [.t 0], none⟩,
⟨some 20, .bin .rem, [.t 19, .k (.c (.s (.int .u8 52)))], none⟩,
⟨some 21, .conv .i64, [.t 20], none⟩,
⟨some 22, .bin .add, [.k (.c (.s (.int .i64 9))), .t 21], none⟩,
⟨some 23, .call 26, [.t 22], none⟩,
⟨some 18, .mv, [.t 23], none⟩,
⟨some 24, .ext 0, [.t 18], none⟩,
⟨some 25, .ext 1, [.t 18], none⟩,
⟨some 5, .alloc [.list 0 [] true, .list 0 [] true], [], none⟩,
⟨none, .store 2 true, [.t 5, .t 24], none⟩,
⟨some 6, .mv, [.t 25], none⟩]) (.seq (.seq (.reg [⟨some 26, .mv, [.t 6], none⟩,
⟨some 27, .bin .neq, [.t 26, .k (.c (.s (.int .i64 0)))], none⟩]) (.cond (.t 27) (.seq (.reg [⟨some 4, .mv, [.k (.c (.s (.bool false)))], none⟩]) (.ret)) (.skip))) (.seq (.reg [⟨some 7, .mv, [.k (.c (.s (.list 0 [] true)))], none⟩]) (.seq (.seq (.reg [⟨some 8, .mv, [.k (.c (.s (.int .i64 0)))], none⟩]) (.block 0 (.loop (.seq (.seq (.reg [⟨some 28, .mv, [.t 8], none⟩,
⟨some 29, .mv, [.t 1], none⟩,
⟨some 30, .len false, [.t 29], none⟩,
⟨some 31, .bin .lss, [.t 28, .t 30], none⟩,
⟨some 32, .mv, [.t 31], none⟩,
⟨some 33, .mv, [.t 8], some (32, true)⟩,
⟨some 34, .bin .lss, [.t 33, .k (.c (.s (.int .i64 20)))], some (32, true)⟩,
⟨some 35, .pick, [.t 32, .t 34, .k (.c (.s (.bool false)))], none⟩]) (.cond (.t 35) (.skip) (.exit 0))) (.seq (.block 1 (.seq (.reg [⟨some 38, .mv, [.t 1], none⟩,
⟨some 39, .mv, [.t 8], none⟩,
⟨some 40, .iadr 4, [.t 38, .t 39], none⟩,
⟨some 41, .load 4 true, [.t 40], none⟩,
⟨some 9, .alloc [.bool false, .int .i64 0, .str [], .list 0 [] true], [], none⟩,
⟨none, .store 4 true, [.t 9, .t 41], none⟩]) (.seq (.seq (.reg [⟨some 42, .fadr 2, [.t 9], none⟩,
⟨some 43, .load 1 false, [.t 42], none⟩,
⟨some 44, .len true, [.t 43], none⟩,
⟨some 45, .bin .gtr, [.t 44, .k (.c (.s (.int .i64 200)))], none⟩,
⟨some 46, .mv, [.t 45], none⟩,
⟨some 47, .fadr 3, [.t 9], some (46, false)⟩,
⟨some 48, .load 1 false, [.t 47], some (46, false)⟩,
⟨some 49, .len false, [.t 48], some (46, false)⟩,
⟨some 50, .bin .gtr, [.t 49, .k (.c (.s (.int .i64 60)))], some (46, false)⟩,
⟨some 51, .pick, [.t 46, .k (.c (.s (.bool true))), .t 50], none⟩]) (.cond (.t 51) (.seq (.reg [⟨some 52, .call 30, [], none⟩,
⟨some 4, .mv, [.t 52], none⟩]) (.ret)) (.skip))) (.seq (.reg [⟨some 54, .load 2 true, [.t 5], none⟩,
⟨some 55, .fadr 2, [.t 9], none⟩,
⟨some 56, .load 1 false, [.t 55], none⟩,
⟨some 57, .call 33, [.t 54, .t 56], none⟩,
⟨some 53, .mv, [.t 57], none⟩,
⟨some 58, .ext 0, [.t 53], none⟩,
⟨some 59, .ext 1, [.t 53], none⟩,
⟨some 60, .ext 2, [.t 53], none⟩,
⟨some 10, .mv, [.t 58], none⟩,
⟨some 11, .mv, [.t 59], none⟩,
⟨some 12, .mv, [.t 60], none⟩]) (.seq (.seq (.reg [⟨some 61, .mv, [.t 12], none⟩,
⟨some 62, .bin .eql, [.t 61, .k (.c (.s (.int .i64 10)))], none⟩]) (.cond (.t 62) (.exit 1) (.skip))) (.seq (.seq (.reg [⟨some 63, .mv, [.t 12], none⟩,
⟨some 64, .bin .neq, [.t 63, .k (.c (.s (.int .i64 0)))], none⟩]) (.cond (.t 64) (.seq (.reg [⟨some 4, .mv, [.k (.c (.s (.bool false)))], none⟩]) (.ret)) (.skip))) (.seq (.regD [⟨some 65, .bslice 2 0 [.int .i64 0, .str []] [], [], none⟩,
⟨some 66, .mv, [.t 7], none⟩,
⟨some 67, .append false 2 24, [.t 65, .t 66], none⟩,
⟨some 68, .mv, [.t 11], none⟩,
⟨some 69, .fadr 2, [.t 9], none⟩,
⟨some 70, .load 1 false, [.t 69], none⟩,
⟨some 71, .build [.int .i64 0, .str []] [(0, 1), (1, 1)], [.t 68, .t 70], none⟩,
⟨some 72, .bslice 2 1 [.int .i64 0, .str []] [0], [.t 71], none⟩,
⟨some 73, .append false 2 24, [.t 67, .t 72], none⟩,
⟨some 74, .call 32, [.t 73, .k (.c (.s (.int .i64 5)))], none⟩,
⟨some 13, .mv, [.t 74], none⟩] [(0, 4), (2, 4), (0, 5), (2, 5), (0, 7), (2, 7)]) (.seq (.seq (.reg [⟨some 75, .mv, [.t 7], none⟩,
⟨some 76, .len false, [.t 75], none⟩,
⟨some 77, .bin .gtr, [.t 76, .k (.c (.s (.int .i64 0)))], none⟩,
⟨some 78, .mv, [.t 77], none⟩,
⟨some 79, .mv, [.t 11], some (78, true)⟩,
⟨some 80, .mv, [.t 7], some (78, true)⟩,
⟨some 81, .mv, [.t 7], some (78, true)⟩,
⟨some 82, .len false, [.t 81], some (78, true)⟩,
⟨some 83, .bin .sub, [.t 82, .k (.c (.s (.int .i64 1)))], some (78, true)⟩,
⟨some 84, .iadr 2, [.t 80, .t 83], some (78, true)⟩,
⟨some 85, .fadr 0, [.t 84], some (78, true)⟩,
⟨some 86, .load 1 false, [.t 85], some (78, true)⟩,
⟨some 87, .bin .add, [.t 86, .k (.c (.s (.int .i64 1)))], some (78, true)⟩,
⟨some 88, .bin .neq, [.t 79, .t 87], some (78, true)⟩,
⟨some 89, .pick, [.t 78, .t 88, .k (.c (.s (.bool false)))], none⟩,
⟨some 90, .mv, [.t 89], none⟩,
⟨some 91, .mv, [.t 7], some (90, false)⟩,
⟨some 92, .len false, [.t 91], some (90, false)⟩,
⟨some 93, .bin .eql, [.t 92, .k (.c (.s (.int .i64 0)))], some (90, false)⟩,
⟨some 94, .mv, [.t 93], some (90, false)⟩,
⟨some 95, .mv, [.t 11], some (94, true)⟩,
⟨some 96, .bin .neq, [.t 95, .k (.c (.s (.int .i64 1)))], some (94, true)⟩,
⟨some 97, .pick, [.t 94, .t 96, .k (.c (.s (.bool false)))], some (90, false)⟩,
⟨some 98, .pick, [.t 90, .k (.c (.s (.bool true))), .t 97], none⟩]) (.cond (.t 98) (.seq (.reg [⟨some 4, .mv, [.k (.c (.s (.bool false)))], none⟩]) (.ret)) (.skip))) (.seq (.seq (.reg [⟨some 99, .fadr 0, [.t 9], none⟩,
⟨some 100, .load 1 false, [.t 99], none⟩]) (.cond (.t 100) (.regD [⟨some 101, .load 2 true, [.t 5], none⟩,
⟨some 102, .mv, [.t 10], none⟩,
⟨some 103, .fadr 1, [.t 9], none⟩,
⟨some 104, .load 1 false, [.t 103], none⟩,
⟨some 105, .call 27, [.t 101, .t 102, .t 104], none⟩,
⟨some 106, .fadr 3, [.t 9], none⟩,
⟨some 107, .load 1 false, [.t 106], none⟩,
⟨some 108, .call 29, [.t 105, .t 107], none⟩,
⟨none, .store 2 true, [.t 5, .t 108], none⟩] [(4, 5), (4, 6)]) (.reg [⟨some 109, .load 2 true, [.t 5], none⟩,
⟨some 110, .mv, [.t 10], none⟩,
⟨some 111, .mv, [.t 10], none⟩,
⟨some 112, .len false, [.t 111], none⟩,
⟨some 113, .call 27, [.t 109, .t 110, .t 112], none⟩,
⟨none, .store 2 true, [.t 5, .t 113], none⟩]))) (.seq (.reg [⟨some 115, .load 2 true, [.t 5], none⟩,
⟨some 116, .call 31, [.t 115], none⟩,
⟨some 114, .mv, [.t 116], none⟩,
⟨some 117, .ext 0, [.t 114], none⟩,
⟨some 118, .ext 1, [.t 114], none⟩,
⟨some 14, .mv, [.t 117], none⟩,
⟨some 15, .mv, [.t 118], none⟩]) (.seq (.reg [⟨some 119, .mv, [.t 14], none⟩,
⟨some 120, .call 19, [.t 119], none⟩,
⟨some 16, .mv, [.t 120], none⟩]) (.seq (.reg [⟨some 121, .mv, [.t 16], none⟩,
⟨some 122, .mv, [.t 13], none⟩,
⟨some 123, .call 18, [.t 121, .t 122], none⟩,
⟨some 17, .mv, [.t 123], none⟩]) (.seq (.seq (.reg [⟨some 124, .mv, [.t 15], none⟩,
⟨some 125, .bin .neq, [.t 124, .k (.c (.s (.int .i64 0)))], none⟩,
⟨some 126, .mv, [.t 125], none⟩,
⟨some 127, .mv, [.t 17], some (126, false)⟩,
⟨some 128, .not, [.t 127], some (126, false)⟩,
⟨some 129, .mv, [.t 128], some (126, false)⟩,
⟨some 130, .fadr 0, [.t 9], some (129, true)⟩,
⟨some 131, .load 1 false, [.t 130], some (129, true)⟩,
⟨some 132, .not, [.t 131], some (129, true)⟩,
⟨some 133, .mv, [.t 132], some (129, true)⟩,
⟨some 134, .fadr 1, [.t 9], some (133, false)⟩,
⟨some 135, .load 1 false, [.t 134], some (133, false)⟩,
⟨some 136, .mv, [.t 10], some (133, false)⟩,
⟨some 137, .len false, [.t 136], some (133, false)⟩,
⟨some 138, .bin .geq, [.t 135, .t 137], some (133, false)⟩,
⟨some 139, .pick, [.t 133, .k (.c (.s (.bool true))), .t 138], some (129, true)⟩,
⟨some 140, .mv, [.t 139], some (129, true)⟩,
⟨some 141, .mv, [.t 16], some (140, false)⟩,
⟨some 142, .mv, [.t 7], some (140, false)⟩,
⟨some 143, .call 18, [.t 141, .t 142], some (140, false)⟩,
⟨some 144, .not, [.t 143], some (140, false)⟩,
⟨some 145, .pick, [.t 140, .k (.c (.s (.bool true))), .t 144], some (129, true)⟩,
⟨some 146, .pick, [.t 129, .t 145, .k (.c (.s (.bool false)))], some (126, false)⟩,
⟨some 147, .pick, [.t 126, .k (.c (.s (.bool true))), .t 146], none⟩]) (.cond (.t 147) (.seq (.reg [⟨some 4, .mv, [.k (.c (.s (.bool false)))], none⟩]) (.ret)) (.skip))) (.reg [⟨some 148, .mv, [.t 16], none⟩,
⟨some 7, .mv, [.t 148], none⟩])))))))))))))) (.reg [⟨some 36, .mv, [.t 8], none⟩,
⟨some 37, .bin .add, [.t 36, .k (.c (.s (.int .i64 1)))], none⟩,
⟨some 8, .mv, [.t 37], none⟩])))))) (.seq (.reg [⟨some 149, .call 30, [], none⟩,
⟨some 4, .mv, [.t 149], none⟩]) (.ret))))))
noncomputable def G_law19_KeepCrash : FuncId → Ab.Spec := addS (addS (addS (addS (addS (addS (addS (addS (addS (noS) 26 (plain newG)) 30 (plain awakeKG)) 33 (plain pushG)) 32 (fresh NewestG)) 27 (plain runG)) 29 (plain crashG)) 31 (plain histG)) 19 (plain refsRG)) 18 (plain sameLG)
theorem G_law19_KeepCrash_ok : ∀ f, Contract Try.prog f (G_law19_KeepCrash f) := (addS_ok (addS_ok (addS_ok (addS_ok (addS_ok (addS_ok (addS_ok (addS_ok (addS_ok (noS_ok _) contract_disk_New) contract_law19_awake) contract_keep_Push) contract_ref19_Newest) contract_disk_Run) contract_disk_Crash) contract_keep_History) contract_law18_Refs) contract_ref18_Records)
theorem G11_26 : G_law19_KeepCrash 26 = plain newG := by simp [G_law19_KeepCrash, addS]
theorem G11_30 : G_law19_KeepCrash 30 = plain awakeKG := by simp [G_law19_KeepCrash, addS]
theorem G11_33 : G_law19_KeepCrash 33 = plain pushG := by simp [G_law19_KeepCrash, addS]
theorem G11_32 : G_law19_KeepCrash 32 = fresh NewestG := by simp [G_law19_KeepCrash, addS]
theorem G11_27 : G_law19_KeepCrash 27 = plain runG := by simp [G_law19_KeepCrash, addS]
theorem G11_29 : G_law19_KeepCrash 29 = plain crashG := by simp [G_law19_KeepCrash, addS]
theorem G11_31 : G_law19_KeepCrash 31 = plain histG := by simp [G_law19_KeepCrash, addS]
theorem G11_19 : G_law19_KeepCrash 19 = plain refsRG := by simp [G_law19_KeepCrash, addS]
theorem G11_18 : G_law19_KeepCrash 18 = plain sameLG := by simp [G_law19_KeepCrash, addS]
set_option maxHeartbeats 16000000 in
set_option maxRecDepth 1000000 in
set_option linter.unusedSimpArgs false in
set_option linter.unusedVariables false in
theorem contract_law19_KeepCrash : Contract Try.prog 11 (plain kCrashG) := by
  have hb : ∃ c, Try.f11.body = some c ∧ codeOk 150 c = true ∧ cCode Try.prog c = sc_law19_KeepCrash := ⟨_, rfl, by kernel_rfl, by kernel_rfl⟩
  obtain ⟨c, hb1, hb2, hb3⟩ := hb
  refine contract_of (n := 2) G_law19_KeepCrash_ok hB hD Try.func11 hb1 (by kernel_rfl) hb2 hb3 (rs := [.tmp 4]) (by kernel_rfl) (by decide) ?_ ?_
  · intro args x h
    obtain ⟨y, hy, -⟩ := Option.map_eq_some_iff.1 h
    obtain ⟨⟨a, sl, f⟩, rfl, -⟩ := specE_some hy
    rfl
  · intro args r hr
    obtain ⟨y, hy, rfl⟩ := Option.map_eq_some_iff.1 hr
    obtain ⟨⟨a, sl, f⟩, rfl, hc, rfl⟩ := specE_some hy
    clear hr hy
    have hc : 0 ≤ a ∧ a < 256 := hc
    change awp _ _ (postQ _ (.v (.c (.s (.bool true))))) _
    unfold kCrashG_enc sc_law19_KeepCrash
    obtain ⟨a0, a1⟩ := hc
    have hwr := wrap64 (n := a % 52) (by omega)
    obtain ⟨N, hN, hN1, hN2⟩ : ∃ N : Nat, (9 : Int) + a % 52 = (N : Int) ∧ 9 ≤ N ∧ N ≤ 60 := ⟨(9 + a % 52).toNat, by omega, by omega, by omega⟩
    obtain ⟨hnd, hne⟩ := new_is (N := N) (by omega)
    have hgo := revs_new (N := N) (by omega)
    have h30 : ¬ (0 : Int) = 10 := by omega
    have h5 : (5 : Int).toNat = 5 := rfl
    generalize newD N = d0 at *
    simp (maxSteps := 4000000) only [↓exT_call G11_26, ↓exT_callo G11_26, ↓exT_calloG G11_26, ↓exT_call G11_30, ↓exT_callo G11_30, ↓exT_calloG G11_30, ↓exT_call G11_33, ↓exT_callo G11_33, ↓exT_calloG G11_33, ↓exT_callf G11_32, ↓exT_call G11_27, ↓exT_callo G11_27, ↓exT_calloG G11_27, ↓exT_call G11_29, ↓exT_callo G11_29, ↓exT_calloG G11_29, ↓exT_call G11_31, ↓exT_callo G11_31, ↓exT_calloG G11_31, ↓exT_call G11_19, ↓exT_callo G11_19, ↓exT_calloG G11_19, ↓exT_call G11_18, ↓exT_callo G11_18, ↓exT_calloG G11_18, hwr, hN, hnd, hne, go_sem, Nat.reduceAdd, Nat.reduceSub, Nat.reduceMul, Nat.reduceEqDiff, Nat.reduceLeDiff, Nat.reduceLT, Nat.reduceBEq, Int.reduceLE, Int.reduceLT, Int.reduceToNat, Int.reduceNeg, Int.reduceAdd, Int.reduceSub, Int.reduceMul, ↓reduceIte]
    repeat (refine ⟨by omega, ?_⟩)
    refine awp_loopM (α := Nat × Disk × Nat × List Rec × Nat × Bool) (fun y => [(1, .c (.s (.list 4 (encs kstpE sl) f))), (5, .c (.ptr 5 0)), (7, .c (.s (.list y.2.2.2.2.1 (encs recE (newestL y.2.2.2.1 5)) y.2.2.2.2.2))), (8, .c (.s (.int .i64 y.1)))])
      (fun y => [(5, .box [.s (.list 1 (encs strE (y.2.1).sectors) false), .s (.list 2 (encs wrE (y.2.1).cache) false)])]) (fun y => sl.length - y.1) (0, d0, 0, [], 0, true) (fun y => y.1 ≤ sl.length ∧ y.1 ≤ 20 ∧ Revs N y.2.1 y.2.2.1 y.2.2.2.1 y.1 ∧ (y.2.2.2.2.1 = 2 ∨ newestL y.2.2.2.1 5 = [])) ⟨Nat.zero_le _, Nat.zero_le _, hgo, .inr rfl⟩ ?_ ?_
    · refine Weak.meets ?_
      have hnil : newestL [] 5 = [] := rfl
      simp (maxSteps := 4000000) only [↓exT_call G11_26, ↓exT_callo G11_26, ↓exT_calloG G11_26, ↓exT_call G11_30, ↓exT_callo G11_30, ↓exT_calloG G11_30, ↓exT_call G11_33, ↓exT_callo G11_33, ↓exT_calloG G11_33, ↓exT_callf G11_32, ↓exT_call G11_27, ↓exT_callo G11_27, ↓exT_calloG G11_27, ↓exT_call G11_29, ↓exT_callo G11_29, ↓exT_calloG G11_29, ↓exT_call G11_31, ↓exT_callo G11_31, ↓exT_calloG G11_31, ↓exT_call G11_19, ↓exT_callo G11_19, ↓exT_calloG G11_19, ↓exT_call G11_18, ↓exT_callo G11_18, ↓exT_calloG G11_18, hnil, go_sem, Nat.reduceAdd, Nat.reduceSub, Nat.reduceMul, Nat.reduceEqDiff, Nat.reduceLeDiff, Nat.reduceLT, Nat.reduceBEq, Int.reduceLE, Int.reduceLT, Int.reduceToNat, Int.reduceNeg, Int.reduceAdd, Int.reduceSub, Int.reduceMul, ↓reduceIte]
      rfl
    rintro ⟨x, d, gn, rs, k, fl⟩ ⟨hx, hx2, hg, hk⟩
    simp only at hx hx2 hg hk
    obtain ⟨c1, c2⟩ := revs_len hg
    have c1 : d.sectors.length < 4000000 := by omega
    have c2 : d.cache.length < 4000000 := by omega
    have hWl := newest_len rs 5
    have hWn := newest_lastNum rs (show 0 < 5 by omega)
    by_cases hx1 : x < sl.length
    case neg =>
      have hxi : ¬ (x : Int) < (sl.length : Int) := by omega
      simp (maxSteps := 4000000) only [↓exT_call G11_26, ↓exT_callo G11_26, ↓exT_calloG G11_26, ↓exT_call G11_30, ↓exT_callo G11_30, ↓exT_calloG G11_30, ↓exT_call G11_33, ↓exT_callo G11_33, ↓exT_calloG G11_33, ↓exT_callf G11_32, ↓exT_call G11_27, ↓exT_callo G11_27, ↓exT_calloG G11_27, ↓exT_call G11_29, ↓exT_callo G11_29, ↓exT_calloG G11_29, ↓exT_call G11_31, ↓exT_callo G11_31, ↓exT_calloG G11_31, ↓exT_call G11_19, ↓exT_callo G11_19, ↓exT_calloG G11_19, ↓exT_call G11_18, ↓exT_callo G11_18, ↓exT_calloG G11_18, hxi, go_sem, Nat.reduceAdd, Nat.reduceSub, Nat.reduceMul, Nat.reduceEqDiff, Nat.reduceLeDiff, Nat.reduceLT, Nat.reduceBEq, Int.reduceLE, Int.reduceLT, Int.reduceToNat, Int.reduceNeg, Int.reduceAdd, Int.reduceSub, Int.reduceMul, ↓reduceIte]
    have hxi : (x : Int) < (sl.length : Int) := by omega
    by_cases hx3 : x < 20
    case neg =>
      have hxj : ¬ (x : Int) < 20 := by omega
      simp (maxSteps := 4000000) only [↓exT_call G11_26, ↓exT_callo G11_26, ↓exT_calloG G11_26, ↓exT_call G11_30, ↓exT_callo G11_30, ↓exT_calloG G11_30, ↓exT_call G11_33, ↓exT_callo G11_33, ↓exT_calloG G11_33, ↓exT_callf G11_32, ↓exT_call G11_27, ↓exT_callo G11_27, ↓exT_calloG G11_27, ↓exT_call G11_29, ↓exT_callo G11_29, ↓exT_calloG G11_29, ↓exT_call G11_31, ↓exT_callo G11_31, ↓exT_calloG G11_31, ↓exT_call G11_19, ↓exT_callo G11_19, ↓exT_calloG G11_19, ↓exT_call G11_18, ↓exT_callo G11_18, ↓exT_calloG G11_18, hxi, hxj, go_sem, Nat.reduceAdd, Nat.reduceSub, Nat.reduceMul, Nat.reduceEqDiff, Nat.reduceLeDiff, Nat.reduceLT, Nat.reduceBEq, Int.reduceLE, Int.reduceLT, Int.reduceToNat, Int.reduceNeg, Int.reduceAdd, Int.reduceSub, Int.reduceMul, ↓reduceIte]
    have hxj : (x : Int) < 20 := by omega
    generalize hs : sl.getD x default = s at *
    obtain ⟨cut, most, t, keep, h1⟩ := s
    by_cases htl : 200 < (t.length : Int)
    case pos =>
      simp (maxSteps := 4000000) only [↓exT_call G11_26, ↓exT_callo G11_26, ↓exT_calloG G11_26, ↓exT_call G11_30, ↓exT_callo G11_30, ↓exT_calloG G11_30, ↓exT_call G11_33, ↓exT_callo G11_33, ↓exT_calloG G11_33, ↓exT_callf G11_32, ↓exT_call G11_27, ↓exT_callo G11_27, ↓exT_calloG G11_27, ↓exT_call G11_29, ↓exT_callo G11_29, ↓exT_calloG G11_29, ↓exT_call G11_31, ↓exT_callo G11_31, ↓exT_calloG G11_31, ↓exT_call G11_19, ↓exT_callo G11_19, ↓exT_calloG G11_19, ↓exT_call G11_18, ↓exT_callo G11_18, ↓exT_calloG G11_18, hxi, hxj, hs, htl, go_sem, Nat.reduceAdd, Nat.reduceSub, Nat.reduceMul, Nat.reduceEqDiff, Nat.reduceLeDiff, Nat.reduceLT, Nat.reduceBEq, Int.reduceLE, Int.reduceLT, Int.reduceToNat, Int.reduceNeg, Int.reduceAdd, Int.reduceSub, Int.reduceMul, ↓reduceIte]
    by_cases hkl : 60 < (keep.length : Int)
    case pos =>
      simp (maxSteps := 4000000) only [↓exT_call G11_26, ↓exT_callo G11_26, ↓exT_calloG G11_26, ↓exT_call G11_30, ↓exT_callo G11_30, ↓exT_calloG G11_30, ↓exT_call G11_33, ↓exT_callo G11_33, ↓exT_calloG G11_33, ↓exT_callf G11_32, ↓exT_call G11_27, ↓exT_callo G11_27, ↓exT_calloG G11_27, ↓exT_call G11_29, ↓exT_callo G11_29, ↓exT_calloG G11_29, ↓exT_call G11_31, ↓exT_callo G11_31, ↓exT_calloG G11_31, ↓exT_call G11_19, ↓exT_callo G11_19, ↓exT_calloG G11_19, ↓exT_call G11_18, ↓exT_callo G11_18, ↓exT_calloG G11_18, hxi, hxj, hs, htl, hkl, go_sem, Nat.reduceAdd, Nat.reduceSub, Nat.reduceMul, Nat.reduceEqDiff, Nat.reduceLeDiff, Nat.reduceLT, Nat.reduceBEq, Int.reduceLE, Int.reduceLT, Int.reduceToNat, Int.reduceNeg, Int.reduceAdd, Int.reduceSub, Int.reduceMul, ↓reduceIte]
    have hkl2 : keep.length < 4000000 := by omega
    have hpl := push_len d t
    rcases revs_push hg (t := t) (by omega) (by omega) most keep with ⟨ops, g', rs', hp, hra, hnw, hcr⟩ | hp
    case inr =>
      have hg' : Revs N d gn rs (x + 1) := ⟨hg.held, hg.size, by have := hg.num; omega⟩
      simp (maxSteps := 4000000) only [↓exT_call G11_26, ↓exT_callo G11_26, ↓exT_calloG G11_26, ↓exT_call G11_30, ↓exT_callo G11_30, ↓exT_calloG G11_30, ↓exT_call G11_33, ↓exT_callo G11_33, ↓exT_calloG G11_33, ↓exT_callf G11_32, ↓exT_call G11_27, ↓exT_callo G11_27, ↓exT_calloG G11_27, ↓exT_call G11_29, ↓exT_callo G11_29, ↓exT_calloG G11_29, ↓exT_call G11_31, ↓exT_callo G11_31, ↓exT_calloG G11_31, ↓exT_call G11_19, ↓exT_callo G11_19, ↓exT_calloG G11_19, ↓exT_call G11_18, ↓exT_callo G11_18, ↓exT_calloG G11_18, hxi, hxj, hs, htl, hkl, c1, c2, hp, go_sem, Nat.reduceAdd, Nat.reduceSub, Nat.reduceMul, Nat.reduceEqDiff, Nat.reduceLeDiff, Nat.reduceLT, Nat.reduceBEq, Int.reduceLE, Int.reduceLT, Int.reduceToNat, Int.reduceNeg, Int.reduceAdd, Int.reduceSub, Int.reduceMul, ↓reduceIte]
      exact ⟨by omega, ⟨x + 1, d, gn, rs, k, fl⟩, ⟨by simp only; omega, by simp only; omega, hg', hk⟩, by simp only; omega, ⟨⟨rfl, rfl, rfl⟩, by simp⟩, rfl, rfl⟩
    have hol : ops.length < 4000000 := by rw [hp] at hpl; simp only at hpl; omega
    have hnm := hg.num
    have hnm0 := (lastNum_le fun r hr => chain_mem hg.held.inv.chain r hr).1
    have hrl := run_len (ops.take most.toNat) d
    have hru : runN d ops most = runD d (ops.take most.toNat) := rfl
    have hru2 : runN d ops (ops.length : Int) = runD d ops := run_lenN
    have hh' := fun (e : Disk) (i : Nat) (g : Nat) (h : Revs N e g rs i) => revs_hist h
    have hh'' := fun (e : Disk) (i : Nat) (g : Nat) (h : Revs N e g rs' i) => revs_hist h
    have hWl' := newest_len rs' 5
    generalize hW : newestL rs 5 = W at *
    generalize hW' : newestL rs' 5 = W' at *
    have hWb : W.length < 4000000 := by omega
    have hWb' : W'.length < 4000000 := by omega
    generalize hd2 : runD d (ops.take most.toNat) = d2 at *
    have r1 : d2.sectors.length < 4000000 := by omega
    have r2 : d2.cache.length < 4000000 := by omega
    generalize hd1 : crashD d2 keep = d1 at *
    generalize hdr : runD d ops = d3 at *
    have hkr : (k = 2 ∨ W = []) = True := eq_true hk
    have hsn : (W ++ [(⟨lastNum rs + 1, t⟩ : Rec)]).length < 4000000 := by rw [List.length_append]; simp; omega
    generalize hNN : lastNum rs + 1 = NN at *
    by_cases hW0 : W = []
    · have hz : ¬ (0 : Int) < (W.length : Int) := by rw [hW0]; simp
      have hz2 : ((W.length : Int) = 0) = True := by rw [hW0]; simp
      have hN1 : NN = 1 := by
        rw [hW0] at hWn
        have : lastNum [] = 0 := rfl
        omega
      subst hN1
      cases cut with
      | false =>
        obtain ⟨e1, e2⟩ := revs_len hra
        have e1 : d3.sectors.length < 4000000 := by omega
        have e2 : d3.cache.length < 4000000 := by omega
        have hsc := hh'' _ _ _ hra
        simp (maxSteps := 4000000) only [↓exT_call G11_26, ↓exT_callo G11_26, ↓exT_calloG G11_26, ↓exT_call G11_30, ↓exT_callo G11_30, ↓exT_calloG G11_30, ↓exT_call G11_33, ↓exT_callo G11_33, ↓exT_calloG G11_33, ↓exT_callf G11_32, ↓exT_call G11_27, ↓exT_callo G11_27, ↓exT_calloG G11_27, ↓exT_call G11_29, ↓exT_callo G11_29, ↓exT_calloG G11_29, ↓exT_call G11_31, ↓exT_callo G11_31, ↓exT_calloG G11_31, ↓exT_call G11_19, ↓exT_callo G11_19, ↓exT_calloG G11_19, ↓exT_call G11_18, ↓exT_callo G11_18, ↓exT_calloG G11_18, hxi, hxj, hs, htl, hkl, c1, c2, hp, h30, hkr, hWb, hWb', rec_snoc, hsn, h5, hnw, hol, hz, hz2, hru2, e1, e2, hsc, go_sem, Nat.reduceAdd, Nat.reduceSub, Nat.reduceMul, Nat.reduceEqDiff, Nat.reduceLeDiff, Nat.reduceLT, Nat.reduceBEq, Int.reduceLE, Int.reduceLT, Int.reduceToNat, Int.reduceNeg, Int.reduceAdd, Int.reduceSub, Int.reduceMul, ↓reduceIte]
        exact ⟨by omega, by omega, by omega, by omega, ⟨x + 1, d3, g', rs', 2, false⟩, ⟨by simp only; omega, by simp only; omega, hra, .inl rfl⟩, by simp only; omega, ⟨⟨rfl, by simp only [hW'], rfl⟩, by simp⟩, rfl, rfl⟩
      | true =>
        rcases hcr with ⟨hm, hg'⟩ | hg'
        · obtain ⟨e1, e2⟩ := revs_len hg'
          have e1 : d1.sectors.length < 4000000 := by omega
          have e2 : d1.cache.length < 4000000 := by omega
          have hsc := hh' _ _ _ hg'
          have hm' : ¬ (ops.length : Int) ≤ most := by omega
          by_cases heq : W = W'
          · have heq' : decide (W = W') = true := decide_eq_true heq
            simp (maxSteps := 4000000) only [↓exT_call G11_26, ↓exT_callo G11_26, ↓exT_calloG G11_26, ↓exT_call G11_30, ↓exT_callo G11_30, ↓exT_calloG G11_30, ↓exT_call G11_33, ↓exT_callo G11_33, ↓exT_calloG G11_33, ↓exT_callf G11_32, ↓exT_call G11_27, ↓exT_callo G11_27, ↓exT_calloG G11_27, ↓exT_call G11_29, ↓exT_callo G11_29, ↓exT_calloG G11_29, ↓exT_call G11_31, ↓exT_callo G11_31, ↓exT_calloG G11_31, ↓exT_call G11_19, ↓exT_callo G11_19, ↓exT_calloG G11_19, ↓exT_call G11_18, ↓exT_callo G11_18, ↓exT_calloG G11_18, hxi, hxj, hs, htl, hkl, c1, c2, hp, h30, hkr, hWb, hWb', rec_snoc, hsn, h5, hnw, hol, hz, hz2, hru, r1, r2, hd1, hkl2, e1, e2, hsc, heq', go_sem, Nat.reduceAdd, Nat.reduceSub, Nat.reduceMul, Nat.reduceEqDiff, Nat.reduceLeDiff, Nat.reduceLT, Nat.reduceBEq, Int.reduceLE, Int.reduceLT, Int.reduceToNat, Int.reduceNeg, Int.reduceAdd, Int.reduceSub, Int.reduceMul, ↓reduceIte]
            exact ⟨by omega, by omega, by omega, by omega, ⟨x + 1, d1, gn, rs, 2, false⟩, ⟨by simp only; omega, by simp only; omega, hg', .inl rfl⟩, by simp only; omega, ⟨⟨rfl, by simp only [hW], rfl⟩, by simp⟩, rfl, rfl⟩
          · have heq' : decide (W = W') = false := decide_eq_false heq
            simp (maxSteps := 4000000) only [↓exT_call G11_26, ↓exT_callo G11_26, ↓exT_calloG G11_26, ↓exT_call G11_30, ↓exT_callo G11_30, ↓exT_calloG G11_30, ↓exT_call G11_33, ↓exT_callo G11_33, ↓exT_calloG G11_33, ↓exT_callf G11_32, ↓exT_call G11_27, ↓exT_callo G11_27, ↓exT_calloG G11_27, ↓exT_call G11_29, ↓exT_callo G11_29, ↓exT_calloG G11_29, ↓exT_call G11_31, ↓exT_callo G11_31, ↓exT_calloG G11_31, ↓exT_call G11_19, ↓exT_callo G11_19, ↓exT_calloG G11_19, ↓exT_call G11_18, ↓exT_callo G11_18, ↓exT_calloG G11_18, hxi, hxj, hs, htl, hkl, c1, c2, hp, h30, hkr, hWb, hWb', rec_snoc, hsn, h5, hnw, hol, hz, hz2, hru, r1, r2, hd1, hkl2, e1, e2, hsc, heq', hm', go_sem, Nat.reduceAdd, Nat.reduceSub, Nat.reduceMul, Nat.reduceEqDiff, Nat.reduceLeDiff, Nat.reduceLT, Nat.reduceBEq, Int.reduceLE, Int.reduceLT, Int.reduceToNat, Int.reduceNeg, Int.reduceAdd, Int.reduceSub, Int.reduceMul, ↓reduceIte]
            exact ⟨by omega, by omega, by omega, by omega, ⟨x + 1, d1, gn, rs, 2, false⟩, ⟨by simp only; omega, by simp only; omega, hg', .inl rfl⟩, by simp only; omega, ⟨⟨rfl, by simp only [hW], rfl⟩, by simp⟩, rfl, rfl⟩
        · obtain ⟨e1, e2⟩ := revs_len hg'
          have e1 : d1.sectors.length < 4000000 := by omega
          have e2 : d1.cache.length < 4000000 := by omega
          have hsc := hh'' _ _ _ hg'
          simp (maxSteps := 4000000) only [↓exT_call G11_26, ↓exT_callo G11_26, ↓exT_calloG G11_26, ↓exT_call G11_30, ↓exT_callo G11_30, ↓exT_calloG G11_30, ↓exT_call G11_33, ↓exT_callo G11_33, ↓exT_calloG G11_33, ↓exT_callf G11_32, ↓exT_call G11_27, ↓exT_callo G11_27, ↓exT_calloG G11_27, ↓exT_call G11_29, ↓exT_callo G11_29, ↓exT_calloG G11_29, ↓exT_call G11_31, ↓exT_callo G11_31, ↓exT_calloG G11_31, ↓exT_call G11_19, ↓exT_callo G11_19, ↓exT_calloG G11_19, ↓exT_call G11_18, ↓exT_callo G11_18, ↓exT_calloG G11_18, hxi, hxj, hs, htl, hkl, c1, c2, hp, h30, hkr, hWb, hWb', rec_snoc, hsn, h5, hnw, hol, hz, hz2, hru, r1, r2, hd1, hkl2, e1, e2, hsc, go_sem, Nat.reduceAdd, Nat.reduceSub, Nat.reduceMul, Nat.reduceEqDiff, Nat.reduceLeDiff, Nat.reduceLT, Nat.reduceBEq, Int.reduceLE, Int.reduceLT, Int.reduceToNat, Int.reduceNeg, Int.reduceAdd, Int.reduceSub, Int.reduceMul, ↓reduceIte]
          exact ⟨by omega, by omega, by omega, by omega, ⟨x + 1, d1, g', rs', 2, false⟩, ⟨by simp only; omega, by simp only; omega, hg', .inl rfl⟩, by simp only; omega, ⟨⟨rfl, by simp only [hW'], rfl⟩, by simp⟩, rfl, rfl⟩
    · have h0l : W.length ≠ 0 := fun e => hW0 (List.length_eq_zero_iff.1 e)
      obtain rfl := hk.resolve_right hW0
      have hz : (0 : Int) < (W.length : Int) := by omega
      have hz2 : ((W.length : Int) = 0) = False := by simp only [eq_iff_iff, iff_false]; omega
      have eix : ((W.length : Int) - 1).toNat = W.length - 1 := by omega
      have hge : (encs recE W).getD (W.length - 1) [] = recE (W.getD (W.length - 1) default) := encs_getN (by omega)
      have hix : (0 : Int) ≤ (W.length : Int) - 1 ∧ (W.length : Int) - 1 < (W.length : Int) := by omega
      have hNl : (W.getD (W.length - 1) default).num + 1 = NN := by rw [← lastNum_ne hW0, hWn]; exact hNN
      cases cut with
      | false =>
        obtain ⟨e1, e2⟩ := revs_len hra
        have e1 : d3.sectors.length < 4000000 := by omega
        have e2 : d3.cache.length < 4000000 := by omega
        have hsc := hh'' _ _ _ hra
        simp (maxSteps := 4000000) only [↓exT_call G11_26, ↓exT_callo G11_26, ↓exT_calloG G11_26, ↓exT_call G11_30, ↓exT_callo G11_30, ↓exT_calloG G11_30, ↓exT_call G11_33, ↓exT_callo G11_33, ↓exT_calloG G11_33, ↓exT_callf G11_32, ↓exT_call G11_27, ↓exT_callo G11_27, ↓exT_calloG G11_27, ↓exT_call G11_29, ↓exT_callo G11_29, ↓exT_calloG G11_29, ↓exT_call G11_31, ↓exT_callo G11_31, ↓exT_calloG G11_31, ↓exT_call G11_19, ↓exT_callo G11_19, ↓exT_calloG G11_19, ↓exT_call G11_18, ↓exT_callo G11_18, ↓exT_calloG G11_18, hxi, hxj, hs, htl, hkl, c1, c2, hp, h30, hkr, hWb, hWb', rec_snoc, hsn, h5, hnw, hol, hz, hz2, hix.1, hix.2, eix, hge, hNl, hru2, e1, e2, hsc, go_sem, Nat.reduceAdd, Nat.reduceSub, Nat.reduceMul, Nat.reduceEqDiff, Nat.reduceLeDiff, Nat.reduceLT, Nat.reduceBEq, Int.reduceLE, Int.reduceLT, Int.reduceToNat, Int.reduceNeg, Int.reduceAdd, Int.reduceSub, Int.reduceMul, ↓reduceIte]
        exact ⟨by omega, by omega, by omega, by omega, by omega, by omega, ⟨x + 1, d3, g', rs', 2, false⟩, ⟨by simp only; omega, by simp only; omega, hra, .inl rfl⟩, by simp only; omega, ⟨⟨rfl, by simp only [hW'], rfl⟩, by simp⟩, rfl, rfl⟩
      | true =>
        rcases hcr with ⟨hm, hg'⟩ | hg'
        · obtain ⟨e1, e2⟩ := revs_len hg'
          have e1 : d1.sectors.length < 4000000 := by omega
          have e2 : d1.cache.length < 4000000 := by omega
          have hsc := hh' _ _ _ hg'
          have hm' : ¬ (ops.length : Int) ≤ most := by omega
          by_cases heq : W = W'
          · have heq' : decide (W = W') = true := decide_eq_true heq
            simp (maxSteps := 4000000) only [↓exT_call G11_26, ↓exT_callo G11_26, ↓exT_calloG G11_26, ↓exT_call G11_30, ↓exT_callo G11_30, ↓exT_calloG G11_30, ↓exT_call G11_33, ↓exT_callo G11_33, ↓exT_calloG G11_33, ↓exT_callf G11_32, ↓exT_call G11_27, ↓exT_callo G11_27, ↓exT_calloG G11_27, ↓exT_call G11_29, ↓exT_callo G11_29, ↓exT_calloG G11_29, ↓exT_call G11_31, ↓exT_callo G11_31, ↓exT_calloG G11_31, ↓exT_call G11_19, ↓exT_callo G11_19, ↓exT_calloG G11_19, ↓exT_call G11_18, ↓exT_callo G11_18, ↓exT_calloG G11_18, hxi, hxj, hs, htl, hkl, c1, c2, hp, h30, hkr, hWb, hWb', rec_snoc, hsn, h5, hnw, hol, hz, hz2, hix.1, hix.2, eix, hge, hNl, hru, r1, r2, hd1, hkl2, e1, e2, hsc, heq', go_sem, Nat.reduceAdd, Nat.reduceSub, Nat.reduceMul, Nat.reduceEqDiff, Nat.reduceLeDiff, Nat.reduceLT, Nat.reduceBEq, Int.reduceLE, Int.reduceLT, Int.reduceToNat, Int.reduceNeg, Int.reduceAdd, Int.reduceSub, Int.reduceMul, ↓reduceIte]
            exact ⟨by omega, by omega, by omega, by omega, by omega, by omega, ⟨x + 1, d1, gn, rs, 2, false⟩, ⟨by simp only; omega, by simp only; omega, hg', .inl rfl⟩, by simp only; omega, ⟨⟨rfl, by simp only [hW], rfl⟩, by simp⟩, rfl, rfl⟩
          · have heq' : decide (W = W') = false := decide_eq_false heq
            simp (maxSteps := 4000000) only [↓exT_call G11_26, ↓exT_callo G11_26, ↓exT_calloG G11_26, ↓exT_call G11_30, ↓exT_callo G11_30, ↓exT_calloG G11_30, ↓exT_call G11_33, ↓exT_callo G11_33, ↓exT_calloG G11_33, ↓exT_callf G11_32, ↓exT_call G11_27, ↓exT_callo G11_27, ↓exT_calloG G11_27, ↓exT_call G11_29, ↓exT_callo G11_29, ↓exT_calloG G11_29, ↓exT_call G11_31, ↓exT_callo G11_31, ↓exT_calloG G11_31, ↓exT_call G11_19, ↓exT_callo G11_19, ↓exT_calloG G11_19, ↓exT_call G11_18, ↓exT_callo G11_18, ↓exT_calloG G11_18, hxi, hxj, hs, htl, hkl, c1, c2, hp, h30, hkr, hWb, hWb', rec_snoc, hsn, h5, hnw, hol, hz, hz2, hix.1, hix.2, eix, hge, hNl, hru, r1, r2, hd1, hkl2, e1, e2, hsc, heq', hm', go_sem, Nat.reduceAdd, Nat.reduceSub, Nat.reduceMul, Nat.reduceEqDiff, Nat.reduceLeDiff, Nat.reduceLT, Nat.reduceBEq, Int.reduceLE, Int.reduceLT, Int.reduceToNat, Int.reduceNeg, Int.reduceAdd, Int.reduceSub, Int.reduceMul, ↓reduceIte]
            exact ⟨by omega, by omega, by omega, by omega, by omega, by omega, ⟨x + 1, d1, gn, rs, 2, false⟩, ⟨by simp only; omega, by simp only; omega, hg', .inl rfl⟩, by simp only; omega, ⟨⟨rfl, by simp only [hW], rfl⟩, by simp⟩, rfl, rfl⟩
        · obtain ⟨e1, e2⟩ := revs_len hg'
          have e1 : d1.sectors.length < 4000000 := by omega
          have e2 : d1.cache.length < 4000000 := by omega
          have hsc := hh'' _ _ _ hg'
          simp (maxSteps := 4000000) only [↓exT_call G11_26, ↓exT_callo G11_26, ↓exT_calloG G11_26, ↓exT_call G11_30, ↓exT_callo G11_30, ↓exT_calloG G11_30, ↓exT_call G11_33, ↓exT_callo G11_33, ↓exT_calloG G11_33, ↓exT_callf G11_32, ↓exT_call G11_27, ↓exT_callo G11_27, ↓exT_calloG G11_27, ↓exT_call G11_29, ↓exT_callo G11_29, ↓exT_calloG G11_29, ↓exT_call G11_31, ↓exT_callo G11_31, ↓exT_calloG G11_31, ↓exT_call G11_19, ↓exT_callo G11_19, ↓exT_calloG G11_19, ↓exT_call G11_18, ↓exT_callo G11_18, ↓exT_calloG G11_18, hxi, hxj, hs, htl, hkl, c1, c2, hp, h30, hkr, hWb, hWb', rec_snoc, hsn, h5, hnw, hol, hz, hz2, hix.1, hix.2, eix, hge, hNl, hru, r1, r2, hd1, hkl2, e1, e2, hsc, go_sem, Nat.reduceAdd, Nat.reduceSub, Nat.reduceMul, Nat.reduceEqDiff, Nat.reduceLeDiff, Nat.reduceLT, Nat.reduceBEq, Int.reduceLE, Int.reduceLT, Int.reduceToNat, Int.reduceNeg, Int.reduceAdd, Int.reduceSub, Int.reduceMul, ↓reduceIte]
          exact ⟨by omega, by omega, by omega, by omega, by omega, by omega, ⟨x + 1, d1, g', rs', 2, false⟩, ⟨by simp only; omega, by simp only; omega, hg', .inl rfl⟩, by simp only; omega, ⟨⟨rfl, by simp only [hW'], rfl⟩, by simp⟩, rfl, rfl⟩

end Go.Proofs.Ytniioedflegdkaa
