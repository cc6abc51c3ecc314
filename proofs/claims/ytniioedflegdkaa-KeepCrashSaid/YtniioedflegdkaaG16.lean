/- The statements on revisions, as functions: KeepNumbers. -/
import Derived.Test.YtniioedflegdkaaG15
set_option linter.all false
namespace Go.Proofs.Ytniioedflegdkaa
open Go Go.Ab Go.Proofs Go.Fs
def kNumbersG_enc : (Int) × (List Bs) × (Bool) → List V := fun ⟨a, tx, f⟩ => [.c (.s (.int .u8 a)), .c (.s (.list 1 (encs strE tx) f))]
theorem kNumbersG_inj : ∀ x y, kNumbersG_enc x = kNumbersG_enc y → x = y := by
  rintro ⟨a, tx, f⟩ ⟨a2, tx2, f2⟩ h
  simp only [kNumbersG_enc, List.cons.injEq, V.c.injEq, V.agg.injEq, C.s.injEq, S.list.injEq, S.str.injEq, S.int.injEq, S.bool.injEq, S.fn.injEq, S.cref.injEq, strE_inj, true_and, and_true] at h
  simp_all
noncomputable def kNumbersG : List V → Option (V) := specE kNumbersG_enc (fun ⟨a, tx, f⟩ => 0 ≤ a ∧ a < 256) (fun ⟨a, tx, f⟩ => .c (.s (.bool true)))
theorem kNumbersG_eq {a : Int} {tx : List Bs} {f : Bool} [Decidable (0 ≤ a ∧ a < 256)] : kNumbersG [.c (.s (.int .u8 a)), .c (.s (.list 1 (encs strE tx) f))] = if 0 ≤ a ∧ a < 256 then some (.c (.s (.bool true))) else none := specE_eq kNumbersG_inj (a, tx, f)
theorem kNumbersG_call {a : Int} {tx : List Bs} {f : Bool} {gt : Bool} {K : V → Prop} : callE kNumbersG [.c (.s (.int .u8 a)), .c (.s (.list 1 (encs strE tx) f))] gt K = ((gt = true → 0 ≤ a ∧ a < 256) ∧ bindV (ifV gt (.c (.s (.bool true)))) K) := by
  have := Classical.propDecidable (0 ≤ a ∧ a < 256)
  exact callE_of kNumbersG_eq
theorem kNumbersG_callo {a : Int} {tx : List Bs} {f : Bool} {m : Nat → Option Ab.Obj} {locs : List Nat} {K : V → (Nat → Option Ab.Obj) → Prop} : callO kNumbersG (some [.c (.s (.int .u8 a)), .c (.s (.list 1 (encs strE tx) f))]) m locs K = ((0 ≤ a ∧ a < 256) ∧ K (.c (.s (.bool true))) (sealW m locs (.c (.s (.bool true))))) := by
  have := Classical.propDecidable (0 ≤ a ∧ a < 256)
  exact callO_of kNumbersG_eq
attribute [go_sem] kNumbersG_call kNumbersG_callo

def sc_law19_KeepNumbers : SC := .seq (.reg [⟨some 4, .mv, [.k (.c (.s (.bool false)))], none⟩]) (.seq (.reg [⟨some 17, .mv, [.t 0], none⟩,
⟨some 18, .bin .rem, [.t 17, .k (.c (.s (.int .u8 52)))], none⟩,
⟨some 19, .conv .i64, [.t 18], none⟩,
⟨some 20, .bin .add, [.k (.c (.s (.int .i64 9))), .t 19], none⟩,
⟨some 21, .call 26, [.t 20], none⟩,
⟨some 16, .mv, [.t 21], none⟩,
⟨some 22, .ext 0, [.t 16], none⟩,
⟨some 23, .ext 1, [.t 16], none⟩,
⟨some 5, .alloc [.list 0 [] true, .list 0 [] true], [], none⟩,
⟨none, .store 2 true, [.t 5, .t 22], none⟩,
⟨some 6, .mv, [.t 23], none⟩]) (.seq (.seq (.reg [⟨some 24, .mv, [.t 6], none⟩,
⟨some 25, .bin .neq, [.t 24, .k (.c (.s (.int .i64 0)))], none⟩]) (.cond (.t 25) (.seq (.reg [⟨some 4, .mv, [.k (.c (.s (.bool false)))], none⟩]) (.ret)) (.skip))) (.seq (.reg [⟨some 7, .mv, [.k (.c (.s (.list 0 [] true)))], none⟩]) (.seq (.seq (.reg [⟨some 8, .mv, [.k (.c (.s (.int .i64 0)))], none⟩]) (.block 0 (.loop (.seq (.seq (.reg [⟨some 26, .mv, [.t 8], none⟩,
⟨some 27, .mv, [.t 1], none⟩,
⟨some 28, .len false, [.t 27], none⟩,
⟨some 29, .bin .lss, [.t 26, .t 28], none⟩,
⟨some 30, .mv, [.t 29], none⟩,
⟨some 31, .mv, [.t 8], some (30, true)⟩,
⟨some 32, .bin .lss, [.t 31, .k (.c (.s (.int .i64 20)))], some (30, true)⟩,
⟨some 33, .pick, [.t 30, .t 32, .k (.c (.s (.bool false)))], none⟩]) (.cond (.t 33) (.skip) (.exit 0))) (.seq (.block 1 (.seq (.seq (.reg [⟨some 36, .mv, [.t 1], none⟩,
⟨some 37, .mv, [.t 8], none⟩,
⟨some 38, .iadr 1, [.t 36, .t 37], none⟩,
⟨some 39, .load 1 false, [.t 38], none⟩,
⟨some 40, .len true, [.t 39], none⟩,
⟨some 41, .bin .gtr, [.t 40, .k (.c (.s (.int .i64 200)))], none⟩]) (.cond (.t 41) (.seq (.reg [⟨some 42, .call 30, [], none⟩,
⟨some 4, .mv, [.t 42], none⟩]) (.ret)) (.skip))) (.seq (.regD [⟨some 44, .load 2 true, [.t 5], none⟩,
⟨some 45, .mv, [.t 1], none⟩,
⟨some 46, .mv, [.t 8], none⟩,
⟨some 47, .iadr 1, [.t 45, .t 46], none⟩,
⟨some 48, .load 1 false, [.t 47], none⟩,
⟨some 49, .call 35, [.t 44, .t 48], none⟩,
⟨some 43, .mv, [.t 49], none⟩,
⟨some 50, .ext 0, [.t 43], none⟩,
⟨some 51, .ext 1, [.t 43], none⟩,
⟨some 52, .ext 2, [.t 43], none⟩,
⟨some 9, .alloc [.list 0 [] true, .list 0 [] true], [], none⟩,
⟨none, .store 2 true, [.t 9, .t 50], none⟩,
⟨some 10, .mv, [.t 51], none⟩,
⟨some 11, .mv, [.t 52], none⟩] [(0, 10), (3, 10), (4, 10), (5, 10)]) (.seq (.seq (.reg [⟨some 53, .mv, [.t 11], none⟩,
⟨some 54, .bin .neq, [.t 53, .k (.c (.s (.int .i64 0)))], none⟩]) (.cond (.t 54) (.seq (.seq (.reg [⟨some 55, .mv, [.t 11], none⟩,
⟨some 56, .bin .neq, [.t 55, .k (.c (.s (.int .i64 10)))], none⟩,
⟨some 57, .mv, [.t 56], none⟩,
⟨some 58, .mv, [.t 10], some (57, false)⟩,
⟨some 59, .bin .neq, [.t 58, .k (.c (.s (.int .i64 0)))], some (57, false)⟩,
⟨some 60, .pick, [.t 57, .k (.c (.s (.bool true))), .t 59], none⟩]) (.cond (.t 60) (.seq (.reg [⟨some 4, .mv, [.k (.c (.s (.bool false)))], none⟩]) (.ret)) (.skip))) (.exit 1)) (.skip))) (.seq (.reg [⟨some 61, .mv, [.t 7], none⟩,
⟨some 62, .mv, [.t 1], none⟩,
⟨some 63, .mv, [.t 8], none⟩,
⟨some 64, .iadr 1, [.t 62, .t 63], none⟩,
⟨some 65, .load 1 false, [.t 64], none⟩,
⟨some 66, .bslice 1 1 [.str []] [0], [.t 65], none⟩,
⟨some 67, .append false 1 16, [.t 61, .t 66], none⟩,
⟨some 7, .mv, [.t 67], none⟩]) (.seq (.seq (.reg [⟨some 68, .mv, [.t 10], none⟩,
⟨some 69, .mv, [.t 7], none⟩,
⟨some 70, .len false, [.t 69], none⟩,
⟨some 71, .bin .neq, [.t 68, .t 70], none⟩]) (.cond (.t 71) (.seq (.reg [⟨some 4, .mv, [.k (.c (.s (.bool false)))], none⟩]) (.ret)) (.skip))) (.seq (.reg [⟨some 72, .load 2 true, [.t 9], none⟩,
⟨none, .store 2 true, [.t 5, .t 72], none⟩]) (.seq (.reg [⟨some 74, .load 2 true, [.t 5], none⟩,
⟨some 75, .call 31, [.t 74], none⟩,
⟨some 73, .mv, [.t 75], none⟩,
⟨some 76, .ext 0, [.t 73], none⟩,
⟨some 77, .ext 1, [.t 73], none⟩,
⟨some 12, .mv, [.t 76], none⟩,
⟨some 13, .mv, [.t 77], none⟩]) (.seq (.seq (.reg [⟨some 78, .mv, [.t 13], none⟩,
⟨some 79, .bin .neq, [.t 78, .k (.c (.s (.int .i64 0)))], none⟩,
⟨some 80, .mv, [.t 79], none⟩,
⟨some 81, .mv, [.t 12], some (80, false)⟩,
⟨some 82, .len false, [.t 81], some (80, false)⟩,
⟨some 83, .mv, [.t 10], some (80, false)⟩,
⟨some 84, .mnx false, [.t 83, .k (.c (.s (.int .i64 5)))], some (80, false)⟩,
⟨some 85, .bin .neq, [.t 82, .t 84], some (80, false)⟩,
⟨some 86, .pick, [.t 80, .k (.c (.s (.bool true))), .t 85], none⟩]) (.cond (.t 86) (.seq (.reg [⟨some 4, .mv, [.k (.c (.s (.bool false)))], none⟩]) (.ret)) (.skip))) (.seq (.reg [⟨some 87, .mv, [.t 12], none⟩,
⟨some 88, .len false, [.t 87], none⟩,
⟨some 89, .mv, [.k (.c (.s (.int .i64 0)))], none⟩]) (.block 2 (.loop (.seq (.reg [⟨some 90, .bin .lss, [.t 89, .t 88], none⟩]) (.seq (.cond (.t 90) (.skip) (.exit 2)) (.seq (.block 3 (.seq (.reg [⟨some 91, .iadr 2, [.t 87, .t 89], none⟩,
⟨some 92, .load 2 true, [.t 91], none⟩,
⟨some 15, .alloc [.int .i64 0, .str []], [], none⟩,
⟨none, .store 2 true, [.t 15, .t 92], none⟩]) (.seq (.regD [⟨some 93, .fadr 0, [.t 15], none⟩,
⟨some 94, .load 1 false, [.t 93], none⟩,
⟨some 95, .bin .lss, [.t 94, .k (.c (.s (.int .i64 1)))], none⟩,
⟨some 96, .mv, [.t 95], none⟩,
⟨some 97, .fadr 0, [.t 15], some (96, false)⟩,
⟨some 98, .load 1 false, [.t 97], some (96, false)⟩,
⟨some 99, .mv, [.t 10], some (96, false)⟩,
⟨some 100, .bin .gtr, [.t 98, .t 99], some (96, false)⟩,
⟨some 101, .pick, [.t 96, .k (.c (.s (.bool true))), .t 100], none⟩,
⟨some 102, .mv, [.t 101], none⟩,
⟨some 103, .fadr 1, [.t 15], some (102, false)⟩,
⟨some 104, .load 1 false, [.t 103], some (102, false)⟩,
⟨some 105, .mv, [.t 7], some (102, false)⟩,
⟨some 106, .fadr 0, [.t 15], some (102, false)⟩,
⟨some 107, .load 1 false, [.t 106], some (102, false)⟩,
⟨some 108, .bin .sub, [.t 107, .k (.c (.s (.int .i64 1)))], some (102, false)⟩,
⟨some 109, .iadr 1, [.t 105, .t 108], some (102, false)⟩,
⟨some 110, .load 1 false, [.t 109], some (102, false)⟩,
⟨some 111, .bin .neq, [.t 104, .t 110], some (102, false)⟩,
⟨some 112, .pick, [.t 102, .k (.c (.s (.bool true))), .t 111], none⟩] []) (.cond (.t 112) (.seq (.reg [⟨some 4, .mv, [.k (.c (.s (.bool false)))], none⟩]) (.ret)) (.skip))))) (.reg [⟨some 113, .bin .add, [.t 89, .k (.c (.s (.int .i64 1)))], none⟩,
⟨some 89, .mv, [.t 113], none⟩])))))))))))))))) (.reg [⟨some 34, .mv, [.t 8], none⟩,
⟨some 35, .bin .add, [.t 34, .k (.c (.s (.int .i64 1)))], none⟩,
⟨some 8, .mv, [.t 35], none⟩])))))) (.seq (.reg [⟨some 114, .call 30, [], none⟩,
⟨some 4, .mv, [.t 114], none⟩]) (.ret))))))
noncomputable def G_law19_KeepNumbers : FuncId → Ab.Spec := addS (addS (addS (addS (noS) 26 (plain newG)) 30 (plain awakeKG)) 35 (plain saveG)) 31 (plain histG)
theorem G_law19_KeepNumbers_ok : ∀ f, Contract Try.prog f (G_law19_KeepNumbers f) := (addS_ok (addS_ok (addS_ok (addS_ok (noS_ok _) contract_disk_New) contract_law19_awake) contract_keep_Save) contract_keep_History)
theorem G10_26 : G_law19_KeepNumbers 26 = plain newG := by simp [G_law19_KeepNumbers, addS]
theorem G10_30 : G_law19_KeepNumbers 30 = plain awakeKG := by simp [G_law19_KeepNumbers, addS]
theorem G10_35 : G_law19_KeepNumbers 35 = plain saveG := by simp [G_law19_KeepNumbers, addS]
theorem G10_31 : G_law19_KeepNumbers 31 = plain histG := by simp [G_law19_KeepNumbers, addS]
set_option maxHeartbeats 16000000 in
set_option maxRecDepth 1000000 in
set_option linter.unusedSimpArgs false in
set_option linter.unusedVariables false in
theorem contract_law19_KeepNumbers : Contract Try.prog 10 (plain kNumbersG) := by
  have hb : ∃ c, Try.f10.body = some c ∧ codeOk 115 c = true ∧ cCode Try.prog c = sc_law19_KeepNumbers := ⟨_, rfl, by kernel_rfl, by kernel_rfl⟩
  obtain ⟨c, hb1, hb2, hb3⟩ := hb
  refine contract_of (n := 2) G_law19_KeepNumbers_ok hB hD Try.func10 hb1 (by kernel_rfl) hb2 hb3 (rs := [.tmp 4]) (by kernel_rfl) (by decide) ?_ ?_
  · intro args x h
    obtain ⟨y, hy, -⟩ := Option.map_eq_some_iff.1 h
    obtain ⟨⟨a, tx, f⟩, rfl, -⟩ := specE_some hy
    rfl
  · intro args r hr
    obtain ⟨y, hy, rfl⟩ := Option.map_eq_some_iff.1 hr
    obtain ⟨⟨a, tx, f⟩, rfl, hc, rfl⟩ := specE_some hy
    clear hr hy
    have hc : 0 ≤ a ∧ a < 256 := hc
    change awp _ _ (postQ _ (.v (.c (.s (.bool true))))) _
    unfold kNumbersG_enc sc_law19_KeepNumbers
    obtain ⟨a0, a1⟩ := hc
    have hwr := wrap64 (n := a % 52) (by omega)
    obtain ⟨N, hN, hN1, hN2⟩ : ∃ N : Nat, (9 : Int) + a % 52 = (N : Int) ∧ 9 ≤ N ∧ N ≤ 60 := ⟨(9 + a % 52).toNat, by omega, by omega, by omega⟩
    obtain ⟨hnd, hne⟩ := new_is (N := N) (by omega)
    have hgo := kept_new (N := N) (by omega)
    have h30 : ¬ (10 : Int) = 0 := by omega
    generalize newD N = d0 at *
    simp (maxSteps := 4000000) only [↓exT_call G10_26, ↓exT_callo G10_26, ↓exT_calloG G10_26, ↓exT_call G10_30, ↓exT_callo G10_30, ↓exT_calloG G10_30, ↓exT_call G10_35, ↓exT_callo G10_35, ↓exT_calloG G10_35, ↓exT_call G10_31, ↓exT_callo G10_31, ↓exT_calloG G10_31, hwr, hN, hnd, hne, go_sem, Nat.reduceAdd, Nat.reduceSub, Nat.reduceMul, Nat.reduceEqDiff, Nat.reduceLeDiff, Nat.reduceLT, Nat.reduceBEq, Int.reduceLE, Int.reduceLT, Int.reduceToNat, Int.reduceNeg, Int.reduceAdd, Int.reduceSub, Int.reduceMul, ↓reduceIte]
    repeat (refine ⟨by omega, ?_⟩)
    refine awp_loopM (α := Nat × Disk × Nat × List Rec × List Bs) (fun y => [(1, .c (.s (.list 1 (encs strE tx) f))), (5, .c (.ptr 5 0)), (7, .c (.own 7 y.2.2.2.2.length)), (8, .c (.s (.int .i64 y.1)))])
      (fun y => [(5, .box [.s (.list 1 (encs strE (y.2.1).sectors) false), .s (.list 2 (encs wrE (y.2.1).cache) false)]), (7, .row 1 (encs strE y.2.2.2.2))]) (fun y => tx.length - y.1) (0, d0, 0, [], []) (fun y => y.1 ≤ tx.length ∧ y.1 ≤ 20 ∧ Kept N y.2.1 y.2.2.1 y.2.2.2.1 y.2.2.2.2 ∧ y.2.2.2.2.length ≤ y.1) ⟨Nat.zero_le _, Nat.zero_le _, hgo, Nat.zero_le _⟩ ?_ ?_
    · refine Weak.trans (Weak.nilSlot 7 7 1 rfl rfl) (Weak.meets ?_)
      simp (maxSteps := 4000000) only [↓exT_call G10_26, ↓exT_callo G10_26, ↓exT_calloG G10_26, ↓exT_call G10_30, ↓exT_callo G10_30, ↓exT_calloG G10_30, ↓exT_call G10_35, ↓exT_callo G10_35, ↓exT_calloG G10_35, ↓exT_call G10_31, ↓exT_callo G10_31, ↓exT_calloG G10_31, go_sem, Nat.reduceAdd, Nat.reduceSub, Nat.reduceMul, Nat.reduceEqDiff, Nat.reduceLeDiff, Nat.reduceLT, Nat.reduceBEq, Int.reduceLE, Int.reduceLT, Int.reduceToNat, Int.reduceNeg, Int.reduceAdd, Int.reduceSub, Int.reduceMul, ↓reduceIte]
      simp
    rintro ⟨x, d, gn, rs, all⟩ ⟨hx, hx2, hg, hall⟩
    simp only at hx hx2 hg hall
    obtain ⟨c1, c2⟩ := kept_len hg
    have c1 : d.sectors.length < 4000000 := by omega
    have c2 : d.cache.length < 4000000 := by omega
    by_cases hx1 : x < tx.length ∧ x < 20
    case neg =>
      by_cases hx3 : x < tx.length
      · have hxi : (x : Int) < (tx.length : Int) := by omega
        have hxj : ¬ (x : Int) < 20 := by omega
        simp (maxSteps := 4000000) only [↓exT_call G10_26, ↓exT_callo G10_26, ↓exT_calloG G10_26, ↓exT_call G10_30, ↓exT_callo G10_30, ↓exT_calloG G10_30, ↓exT_call G10_35, ↓exT_callo G10_35, ↓exT_calloG G10_35, ↓exT_call G10_31, ↓exT_callo G10_31, ↓exT_calloG G10_31, hxi, hxj, go_sem, Nat.reduceAdd, Nat.reduceSub, Nat.reduceMul, Nat.reduceEqDiff, Nat.reduceLeDiff, Nat.reduceLT, Nat.reduceBEq, Int.reduceLE, Int.reduceLT, Int.reduceToNat, Int.reduceNeg, Int.reduceAdd, Int.reduceSub, Int.reduceMul, ↓reduceIte]
      · have hxi : ¬ (x : Int) < (tx.length : Int) := by omega
        simp (maxSteps := 4000000) only [↓exT_call G10_26, ↓exT_callo G10_26, ↓exT_calloG G10_26, ↓exT_call G10_30, ↓exT_callo G10_30, ↓exT_calloG G10_30, ↓exT_call G10_35, ↓exT_callo G10_35, ↓exT_calloG G10_35, ↓exT_call G10_31, ↓exT_callo G10_31, ↓exT_calloG G10_31, hxi, go_sem, Nat.reduceAdd, Nat.reduceSub, Nat.reduceMul, Nat.reduceEqDiff, Nat.reduceLeDiff, Nat.reduceLT, Nat.reduceBEq, Int.reduceLE, Int.reduceLT, Int.reduceToNat, Int.reduceNeg, Int.reduceAdd, Int.reduceSub, Int.reduceMul, ↓reduceIte]
    have hxi : (x : Int) < (tx.length : Int) ∧ (x : Int) < 20 := by omega
    generalize ht : tx.getD x default = t at *
    by_cases htl : 200 < (t.length : Int)
    case pos =>
      simp (maxSteps := 4000000) only [↓exT_call G10_26, ↓exT_callo G10_26, ↓exT_calloG G10_26, ↓exT_call G10_30, ↓exT_callo G10_30, ↓exT_calloG G10_30, ↓exT_call G10_35, ↓exT_callo G10_35, ↓exT_calloG G10_35, ↓exT_call G10_31, ↓exT_callo G10_31, ↓exT_calloG G10_31, hxi.1, hxi.2, ht, htl, go_sem, Nat.reduceAdd, Nat.reduceSub, Nat.reduceMul, Nat.reduceEqDiff, Nat.reduceLeDiff, Nat.reduceLT, Nat.reduceBEq, Int.reduceLE, Int.reduceLT, Int.reduceToNat, Int.reduceNeg, Int.reduceAdd, Int.reduceSub, Int.reduceMul, ↓reduceIte]
    have hsv := kept_save hg (t := t) (by omega) (by omega)
    rcases hsv with ⟨d1, g', rs', h1, h2⟩ | ⟨h1, h2⟩
    case inr =>
      simp (maxSteps := 4000000) only [↓exT_call G10_26, ↓exT_callo G10_26, ↓exT_calloG G10_26, ↓exT_call G10_30, ↓exT_callo G10_30, ↓exT_calloG G10_30, ↓exT_call G10_35, ↓exT_callo G10_35, ↓exT_calloG G10_35, ↓exT_call G10_31, ↓exT_callo G10_31, ↓exT_calloG G10_31, hxi.1, hxi.2, ht, htl, c1, c2, h1, h30, go_sem, Nat.reduceAdd, Nat.reduceSub, Nat.reduceMul, Nat.reduceEqDiff, Nat.reduceLeDiff, Nat.reduceLT, Nat.reduceBEq, Int.reduceLE, Int.reduceLT, Int.reduceToNat, Int.reduceNeg, Int.reduceAdd, Int.reduceSub, Int.reduceMul, ↓reduceIte]
      exact ⟨by omega, ⟨x + 1, d, gn, rs, all⟩, ⟨by simp only; omega, by simp only; omega, hg, by simp only; omega⟩, by simp only; omega, by simp, ⟨rfl, rfl⟩, rfl⟩
    have hh := kept_hist h2
    obtain ⟨e1, e2⟩ := kept_len h2
    have e1 : d1.sectors.length < 4000000 := by omega
    have e2 : d1.cache.length < 4000000 := by omega
    have hll := hist_len (all ++ [t])
    have hmem := fun r (h : r ∈ newestL (numbR (all ++ [t])) 5) => numb_mem (newest_mem h)
    have hal : (all ++ [t]).length = all.length + 1 := by simp
    generalize newestL (numbR (all ++ [t])) 5 = L at *
    have l0 : (decide ((L.length : Int) = min ((all.length : Int) + 1) 5)) = true := decide_eq_true (by omega)
    have hN0 : ((all.length + 1 : Nat) : Int) = (all.length : Int) + 1 := by omega
    simp (maxSteps := 4000000) only [↓exT_call G10_26, ↓exT_callo G10_26, ↓exT_calloG G10_26, ↓exT_call G10_30, ↓exT_callo G10_30, ↓exT_calloG G10_30, ↓exT_call G10_35, ↓exT_callo G10_35, ↓exT_calloG G10_35, ↓exT_call G10_31, ↓exT_callo G10_31, ↓exT_calloG G10_31, hxi.1, hxi.2, ht, htl, c1, c2, h1, str_snoc, hal, hN0, e1, e2, hh, l0, go_sem, Nat.reduceAdd, Nat.reduceSub, Nat.reduceMul, Nat.reduceEqDiff, Nat.reduceLeDiff, Nat.reduceLT, Nat.reduceBEq, Int.reduceLE, Int.reduceLT, Int.reduceToNat, Int.reduceNeg, Int.reduceAdd, Int.reduceSub, Int.reduceMul, ↓reduceIte]
    refine ⟨by omega, ?_⟩
    refine awp_loopM (α := Nat) (fun j => [(1, .c (.s (.list 1 (encs strE tx) f))), (5, .c (.ptr 5 0)), (7, .c (.own 7 (all.length + 1))), (8, .c (.s (.int .i64 x))), (10, .c (.s (.int .i64 ((all.length : Int) + 1)))), (87, .c (.s (.list 2 (encs recE L) false))), (88, .c (.s (.int .i64 L.length))), (89, .c (.s (.int .i64 j)))])
      (fun _ => [(5, .box [.s (.list 1 (encs strE (d1).sectors) false), .s (.list 2 (encs wrE (d1).cache) false)]), (7, .row 1 (encs strE (all ++ [t])))]) (fun j => L.length - j) 0 (fun j => j ≤ L.length) (Nat.zero_le _) ?_ ?_
    · refine Weak.meets ?_
      simp (maxSteps := 4000000) only [↓exT_call G10_26, ↓exT_callo G10_26, ↓exT_calloG G10_26, ↓exT_call G10_30, ↓exT_callo G10_30, ↓exT_calloG G10_30, ↓exT_call G10_35, ↓exT_callo G10_35, ↓exT_calloG G10_35, ↓exT_call G10_31, ↓exT_callo G10_31, ↓exT_calloG G10_31, go_sem, Nat.reduceAdd, Nat.reduceSub, Nat.reduceMul, Nat.reduceEqDiff, Nat.reduceLeDiff, Nat.reduceLT, Nat.reduceBEq, Int.reduceLE, Int.reduceLT, Int.reduceToNat, Int.reduceNeg, Int.reduceAdd, Int.reduceSub, Int.reduceMul, ↓reduceIte]
      rfl
    intro j hj
    by_cases hjl : j < L.length
    case neg =>
      have hji : ¬ (j : Int) < (L.length : Int) := by omega
      simp (maxSteps := 4000000) only [↓exT_call G10_26, ↓exT_callo G10_26, ↓exT_calloG G10_26, ↓exT_call G10_30, ↓exT_callo G10_30, ↓exT_calloG G10_30, ↓exT_call G10_35, ↓exT_callo G10_35, ↓exT_calloG G10_35, ↓exT_call G10_31, ↓exT_callo G10_31, ↓exT_calloG G10_31, hji, go_sem, Nat.reduceAdd, Nat.reduceSub, Nat.reduceMul, Nat.reduceEqDiff, Nat.reduceLeDiff, Nat.reduceLT, Nat.reduceBEq, Int.reduceLE, Int.reduceLT, Int.reduceToNat, Int.reduceNeg, Int.reduceAdd, Int.reduceSub, Int.reduceMul, ↓reduceIte]
      exact ⟨by omega, ⟨x + 1, d1, g', rs', all ++ [t]⟩, ⟨by simp only; omega, by simp only; omega, h2, by simp only; omega⟩, by simp only; omega, ⟨by simp, by simp⟩, ⟨rfl, rfl⟩, rfl⟩
    have hji : (j : Int) < (L.length : Int) := by omega
    obtain ⟨m1, m2, m3, -⟩ := hmem _ (mem_getD hjl)
    obtain ⟨k, hk⟩ : ∃ k : Nat, (L.getD j default).num = (k : Int) + 1 := ⟨((L.getD j default).num - 1).toNat, by omega⟩
    rw [hk, show ((k : Int) + 1 - 1).toNat = k by omega] at m3
    have hkl : k < (all ++ [t]).length := by omega
    have n1 : ¬ (k : Int) + 1 < 1 := by omega
    have n2 : ¬ (all.length : Int) + 1 < (k : Int) + 1 := by omega
    have n3 : (k : Int) + 1 - 1 = (k : Int) := by omega
    have n4 : (k : Int) < (all.length : Int) + 1 := by omega
    have hge : (encs strE (all ++ [t])).getD k [] = strE ((all ++ [t]).getD k default) := encs_getN (by omega)
    have m4 : (L.getD j default).text = (all ++ [t]).getD k default := m3
    simp (maxSteps := 4000000) only [↓exT_call G10_26, ↓exT_callo G10_26, ↓exT_calloG G10_26, ↓exT_call G10_30, ↓exT_callo G10_30, ↓exT_calloG G10_30, ↓exT_call G10_35, ↓exT_callo G10_35, ↓exT_calloG G10_35, ↓exT_call G10_31, ↓exT_callo G10_31, ↓exT_calloG G10_31, hji, hk, n1, n2, n3, n4, hge, m4, hal, hN0, go_sem, Nat.reduceAdd, Nat.reduceSub, Nat.reduceMul, Nat.reduceEqDiff, Nat.reduceLeDiff, Nat.reduceLT, Nat.reduceBEq, Int.reduceLE, Int.reduceLT, Int.reduceToNat, Int.reduceNeg, Int.reduceAdd, Int.reduceSub, Int.reduceMul, ↓reduceIte]
    exact ⟨by omega, by omega, j + 1, by omega, by omega, by simp⟩

end Go.Proofs.Ytniioedflegdkaa
