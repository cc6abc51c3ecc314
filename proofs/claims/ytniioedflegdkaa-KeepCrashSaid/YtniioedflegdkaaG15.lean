/- The statements on revisions, as functions: KeepAgain. -/
import Derived.Test.YtniioedflegdkaaG14
set_option linter.all false
namespace Go.Proofs.Ytniioedflegdkaa
open Go Go.Ab Go.Proofs Go.Fs
def kAgainG_enc : (Int) × (List Bs) × (Bool) × (List Int) × (Bool) → List V := fun ⟨a, tx, f, keep, h⟩ => [.c (.s (.int .u8 a)), .c (.s (.list 1 (encs strE tx) f)), .c (.s (.list 1 (encs numE keep) h))]
theorem kAgainG_inj : ∀ x y, kAgainG_enc x = kAgainG_enc y → x = y := by
  rintro ⟨a, tx, f, keep, h⟩ ⟨a2, tx2, f2, keep2, h2⟩ h
  simp only [kAgainG_enc, List.cons.injEq, V.c.injEq, V.agg.injEq, C.s.injEq, S.list.injEq, S.str.injEq, S.int.injEq, S.bool.injEq, S.fn.injEq, S.cref.injEq, strE_inj, true_and, and_true, numE_inj] at h
  simp_all
noncomputable def kAgainG : List V → Option (V) := specE kAgainG_enc (fun ⟨a, tx, f, keep, h⟩ => 0 ≤ a ∧ a < 256) (fun ⟨a, tx, f, keep, h⟩ => .c (.s (.bool true)))
theorem kAgainG_eq {a : Int} {tx : List Bs} {f : Bool} {keep : List Int} {h : Bool} [Decidable (0 ≤ a ∧ a < 256)] : kAgainG [.c (.s (.int .u8 a)), .c (.s (.list 1 (encs strE tx) f)), .c (.s (.list 1 (encs numE keep) h))] = if 0 ≤ a ∧ a < 256 then some (.c (.s (.bool true))) else none := specE_eq kAgainG_inj (a, tx, f, keep, h)
theorem kAgainG_call {a : Int} {tx : List Bs} {f : Bool} {keep : List Int} {h : Bool} {gt : Bool} {K : V → Prop} : callE kAgainG [.c (.s (.int .u8 a)), .c (.s (.list 1 (encs strE tx) f)), .c (.s (.list 1 (encs numE keep) h))] gt K = ((gt = true → 0 ≤ a ∧ a < 256) ∧ bindV (ifV gt (.c (.s (.bool true)))) K) := by
  have := Classical.propDecidable (0 ≤ a ∧ a < 256)
  exact callE_of kAgainG_eq
theorem kAgainG_callo {a : Int} {tx : List Bs} {f : Bool} {keep : List Int} {h : Bool} {m : Nat → Option Ab.Obj} {locs : List Nat} {K : V → (Nat → Option Ab.Obj) → Prop} : callO kAgainG (some [.c (.s (.int .u8 a)), .c (.s (.list 1 (encs strE tx) f)), .c (.s (.list 1 (encs numE keep) h))]) m locs K = ((0 ≤ a ∧ a < 256) ∧ K (.c (.s (.bool true))) (sealW m locs (.c (.s (.bool true))))) := by
  have := Classical.propDecidable (0 ≤ a ∧ a < 256)
  exact callO_of kAgainG_eq
attribute [go_sem] kAgainG_call kAgainG_callo

def sc_law19_KeepAgain : SC := .seq (.reg [⟨some 6, .mv, [.k (.c (.s (.bool false)))], none⟩]) (.seq (.reg [⟨some 15, .mv, [.t 0], none⟩,
⟨some 16, .bin .rem, [.t 15, .k (.c (.s (.int .u8 52)))], none⟩,
⟨some 17, .conv .i64, [.t 16], none⟩,
⟨some 18, .bin .add, [.k (.c (.s (.int .i64 9))), .t 17], none⟩,
⟨some 19, .call 26, [.t 18], none⟩,
⟨some 14, .mv, [.t 19], none⟩,
⟨some 20, .ext 0, [.t 14], none⟩,
⟨some 21, .ext 1, [.t 14], none⟩,
⟨some 7, .alloc [.list 0 [] true, .list 0 [] true], [], none⟩,
⟨none, .store 2 true, [.t 7, .t 20], none⟩,
⟨some 8, .mv, [.t 21], none⟩]) (.seq (.seq (.reg [⟨some 22, .mv, [.t 8], none⟩,
⟨some 23, .bin .neq, [.t 22, .k (.c (.s (.int .i64 0)))], none⟩,
⟨some 24, .mv, [.t 23], none⟩,
⟨some 25, .mv, [.t 2], some (24, false)⟩,
⟨some 26, .len false, [.t 25], some (24, false)⟩,
⟨some 27, .bin .gtr, [.t 26, .k (.c (.s (.int .i64 60)))], some (24, false)⟩,
⟨some 28, .pick, [.t 24, .k (.c (.s (.bool true))), .t 27], none⟩]) (.cond (.t 28) (.seq (.reg [⟨some 29, .mv, [.t 8], none⟩,
⟨some 30, .bin .eql, [.t 29, .k (.c (.s (.int .i64 0)))], none⟩,
⟨some 31, .mv, [.t 30], none⟩,
⟨some 32, .call 30, [], some (31, true)⟩,
⟨some 33, .pick, [.t 31, .t 32, .k (.c (.s (.bool false)))], none⟩,
⟨some 6, .mv, [.t 33], none⟩]) (.ret)) (.skip))) (.seq (.seq (.reg [⟨some 9, .mv, [.k (.c (.s (.int .i64 0)))], none⟩]) (.block 0 (.loop (.seq (.seq (.reg [⟨some 34, .mv, [.t 9], none⟩,
⟨some 35, .mv, [.t 1], none⟩,
⟨some 36, .len false, [.t 35], none⟩,
⟨some 37, .bin .lss, [.t 34, .t 36], none⟩,
⟨some 38, .mv, [.t 37], none⟩,
⟨some 39, .mv, [.t 9], some (38, true)⟩,
⟨some 40, .bin .lss, [.t 39, .k (.c (.s (.int .i64 20)))], some (38, true)⟩,
⟨some 41, .pick, [.t 38, .t 40, .k (.c (.s (.bool false)))], none⟩]) (.cond (.t 41) (.skip) (.exit 0))) (.seq (.block 1 (.seq (.seq (.reg [⟨some 44, .mv, [.t 1], none⟩,
⟨some 45, .mv, [.t 9], none⟩,
⟨some 46, .iadr 1, [.t 44, .t 45], none⟩,
⟨some 47, .load 1 false, [.t 46], none⟩,
⟨some 48, .len true, [.t 47], none⟩,
⟨some 49, .bin .gtr, [.t 48, .k (.c (.s (.int .i64 200)))], none⟩]) (.cond (.t 49) (.seq (.reg [⟨some 50, .call 30, [], none⟩,
⟨some 6, .mv, [.t 50], none⟩]) (.ret)) (.skip))) (.regD [⟨some 52, .load 2 true, [.t 7], none⟩,
⟨some 53, .mv, [.t 1], none⟩,
⟨some 54, .mv, [.t 9], none⟩,
⟨some 55, .iadr 1, [.t 53, .t 54], none⟩,
⟨some 56, .load 1 false, [.t 55], none⟩,
⟨some 57, .call 35, [.t 52, .t 56], none⟩,
⟨some 51, .mv, [.t 57], none⟩,
⟨some 58, .ext 0, [.t 51], none⟩,
⟨some 59, .ext 1, [.t 51], none⟩,
⟨some 60, .ext 2, [.t 51], none⟩,
⟨none, .store 2 true, [.t 7, .t 58], none⟩] []))) (.reg [⟨some 42, .mv, [.t 9], none⟩,
⟨some 43, .bin .add, [.t 42, .k (.c (.s (.int .i64 1)))], none⟩,
⟨some 9, .mv, [.t 43], none⟩])))))) (.seq (.reg [⟨some 62, .load 2 true, [.t 7], none⟩,
⟨some 63, .call 31, [.t 62], none⟩,
⟨some 61, .mv, [.t 63], none⟩,
⟨some 64, .ext 0, [.t 61], none⟩,
⟨some 65, .ext 1, [.t 61], none⟩,
⟨some 10, .mv, [.t 64], none⟩,
⟨some 11, .mv, [.t 65], none⟩]) (.seq (.reg [⟨some 67, .load 2 true, [.t 7], none⟩,
⟨some 68, .mv, [.t 2], none⟩,
⟨some 69, .call 29, [.t 67, .t 68], none⟩,
⟨some 70, .call 31, [.t 69], none⟩,
⟨some 66, .mv, [.t 70], none⟩,
⟨some 71, .ext 0, [.t 66], none⟩,
⟨some 72, .ext 1, [.t 66], none⟩,
⟨some 12, .mv, [.t 71], none⟩,
⟨some 13, .mv, [.t 72], none⟩]) (.seq (.reg [⟨some 73, .mv, [.t 11], none⟩,
⟨some 74, .bin .eql, [.t 73, .k (.c (.s (.int .i64 0)))], none⟩,
⟨some 75, .mv, [.t 74], none⟩,
⟨some 76, .mv, [.t 13], some (75, true)⟩,
⟨some 77, .bin .eql, [.t 76, .k (.c (.s (.int .i64 0)))], some (75, true)⟩,
⟨some 78, .pick, [.t 75, .t 77, .k (.c (.s (.bool false)))], none⟩,
⟨some 79, .mv, [.t 78], none⟩,
⟨some 80, .mv, [.t 10], some (79, true)⟩,
⟨some 81, .call 19, [.t 80], some (79, true)⟩,
⟨some 82, .mv, [.t 12], some (79, true)⟩,
⟨some 83, .call 19, [.t 82], some (79, true)⟩,
⟨some 84, .call 18, [.t 81, .t 83], some (79, true)⟩,
⟨some 85, .pick, [.t 79, .t 84, .k (.c (.s (.bool false)))], none⟩,
⟨some 86, .mv, [.t 85], none⟩,
⟨some 87, .fadr 1, [.t 7], some (86, true)⟩,
⟨some 88, .load 1 false, [.t 87], some (86, true)⟩,
⟨some 89, .len false, [.t 88], some (86, true)⟩,
⟨some 90, .bin .eql, [.t 89, .k (.c (.s (.int .i64 0)))], some (86, true)⟩,
⟨some 91, .pick, [.t 86, .t 90, .k (.c (.s (.bool false)))], none⟩,
⟨some 92, .mv, [.t 91], none⟩,
⟨some 93, .call 30, [], some (92, true)⟩,
⟨some 94, .pick, [.t 92, .t 93, .k (.c (.s (.bool false)))], none⟩,
⟨some 6, .mv, [.t 94], none⟩]) (.ret)))))))
noncomputable def G_law19_KeepAgain : FuncId → Ab.Spec := addS (addS (addS (addS (addS (addS (addS (noS) 26 (plain newG)) 30 (plain awakeKG)) 35 (plain saveG)) 31 (plain histG)) 29 (plain crashG)) 19 (plain refsRG)) 18 (plain sameLG)
theorem G_law19_KeepAgain_ok : ∀ f, Contract Try.prog f (G_law19_KeepAgain f) := (addS_ok (addS_ok (addS_ok (addS_ok (addS_ok (addS_ok (addS_ok (noS_ok _) contract_disk_New) contract_law19_awake) contract_keep_Save) contract_keep_History) contract_disk_Crash) contract_law18_Refs) contract_ref18_Records)
theorem G12_26 : G_law19_KeepAgain 26 = plain newG := by simp [G_law19_KeepAgain, addS]
theorem G12_30 : G_law19_KeepAgain 30 = plain awakeKG := by simp [G_law19_KeepAgain, addS]
theorem G12_35 : G_law19_KeepAgain 35 = plain saveG := by simp [G_law19_KeepAgain, addS]
theorem G12_31 : G_law19_KeepAgain 31 = plain histG := by simp [G_law19_KeepAgain, addS]
theorem G12_29 : G_law19_KeepAgain 29 = plain crashG := by simp [G_law19_KeepAgain, addS]
theorem G12_19 : G_law19_KeepAgain 19 = plain refsRG := by simp [G_law19_KeepAgain, addS]
theorem G12_18 : G_law19_KeepAgain 18 = plain sameLG := by simp [G_law19_KeepAgain, addS]
set_option maxHeartbeats 16000000 in
set_option maxRecDepth 1000000 in
set_option linter.unusedSimpArgs false in
set_option linter.unusedVariables false in
theorem contract_law19_KeepAgain : Contract Try.prog 12 (plain kAgainG) := by
  have hb : ∃ c, Try.f12.body = some c ∧ codeOk 95 c = true ∧ cCode Try.prog c = sc_law19_KeepAgain := ⟨_, rfl, by kernel_rfl, by kernel_rfl⟩
  obtain ⟨c, hb1, hb2, hb3⟩ := hb
  refine contract_of (n := 3) G_law19_KeepAgain_ok hB hD Try.func12 hb1 (by kernel_rfl) hb2 hb3 (rs := [.tmp 6]) (by kernel_rfl) (by decide) ?_ ?_
  · intro args x h
    obtain ⟨y, hy, -⟩ := Option.map_eq_some_iff.1 h
    obtain ⟨⟨a, tx, f, keep, h⟩, rfl, -⟩ := specE_some hy
    rfl
  · intro args r hr
    obtain ⟨y, hy, rfl⟩ := Option.map_eq_some_iff.1 hr
    obtain ⟨⟨a, tx, f, keep, h⟩, rfl, hc, rfl⟩ := specE_some hy
    clear hr hy
    have hc : 0 ≤ a ∧ a < 256 := hc
    change awp _ _ (postQ _ (.v (.c (.s (.bool true))))) _
    unfold kAgainG_enc sc_law19_KeepAgain
    obtain ⟨a0, a1⟩ := hc
    have hwr := wrap64 (n := a % 52) (by omega)
    obtain ⟨N, hN, hN1, hN2⟩ : ∃ N : Nat, (9 : Int) + a % 52 = (N : Int) ∧ 9 ≤ N ∧ N ≤ 60 := ⟨(9 + a % 52).toNat, by omega, by omega, by omega⟩
    obtain ⟨hnd, hne⟩ := new_is (N := N) (by omega)
    have hgo := kept_new (N := N) (by omega)
    generalize newD N = d0 at *
    by_cases hk : 60 < (keep.length : Int)
    case pos =>
      simp (maxSteps := 4000000) only [↓exT_call G12_26, ↓exT_callo G12_26, ↓exT_calloG G12_26, ↓exT_call G12_30, ↓exT_callo G12_30, ↓exT_calloG G12_30, ↓exT_call G12_35, ↓exT_callo G12_35, ↓exT_calloG G12_35, ↓exT_call G12_31, ↓exT_callo G12_31, ↓exT_calloG G12_31, ↓exT_call G12_29, ↓exT_callo G12_29, ↓exT_calloG G12_29, ↓exT_call G12_19, ↓exT_callo G12_19, ↓exT_calloG G12_19, ↓exT_call G12_18, ↓exT_callo G12_18, ↓exT_calloG G12_18, hwr, hN, hnd, hne, hk, go_sem, Nat.reduceAdd, Nat.reduceSub, Nat.reduceMul, Nat.reduceEqDiff, Nat.reduceLeDiff, Nat.reduceLT, Nat.reduceBEq, Int.reduceLE, Int.reduceLT, Int.reduceToNat, Int.reduceNeg, Int.reduceAdd, Int.reduceSub, Int.reduceMul, ↓reduceIte]
      omega
    simp (maxSteps := 4000000) only [↓exT_call G12_26, ↓exT_callo G12_26, ↓exT_calloG G12_26, ↓exT_call G12_30, ↓exT_callo G12_30, ↓exT_calloG G12_30, ↓exT_call G12_35, ↓exT_callo G12_35, ↓exT_calloG G12_35, ↓exT_call G12_31, ↓exT_callo G12_31, ↓exT_calloG G12_31, ↓exT_call G12_29, ↓exT_callo G12_29, ↓exT_calloG G12_29, ↓exT_call G12_19, ↓exT_callo G12_19, ↓exT_calloG G12_19, ↓exT_call G12_18, ↓exT_callo G12_18, ↓exT_calloG G12_18, hwr, hN, hnd, hne, hk, go_sem, Nat.reduceAdd, Nat.reduceSub, Nat.reduceMul, Nat.reduceEqDiff, Nat.reduceLeDiff, Nat.reduceLT, Nat.reduceBEq, Int.reduceLE, Int.reduceLT, Int.reduceToNat, Int.reduceNeg, Int.reduceAdd, Int.reduceSub, Int.reduceMul, ↓reduceIte]
    repeat (refine ⟨by omega, ?_⟩)
    refine awp_loopM (α := Nat × Disk × Nat × List Rec × List Bs) (fun y => [(1, .c (.s (.list 1 (encs strE tx) f))), (2, .c (.s (.list 1 (encs numE keep) h))), (7, .c (.ptr 7 0)), (9, .c (.s (.int .i64 y.1)))])
      (fun y => [(7, .box [.s (.list 1 (encs strE (y.2.1).sectors) false), .s (.list 2 (encs wrE (y.2.1).cache) false)])]) (fun y => tx.length - y.1) (0, d0, 0, [], []) (fun y => y.1 ≤ tx.length ∧ y.1 ≤ 20 ∧ Kept N y.2.1 y.2.2.1 y.2.2.2.1 y.2.2.2.2 ∧ y.2.2.2.2.length ≤ y.1) ⟨Nat.zero_le _, Nat.zero_le _, hgo, Nat.zero_le _⟩ ?_ ?_
    · refine Weak.meets ?_
      simp (maxSteps := 4000000) only [↓exT_call G12_26, ↓exT_callo G12_26, ↓exT_calloG G12_26, ↓exT_call G12_30, ↓exT_callo G12_30, ↓exT_calloG G12_30, ↓exT_call G12_35, ↓exT_callo G12_35, ↓exT_calloG G12_35, ↓exT_call G12_31, ↓exT_callo G12_31, ↓exT_calloG G12_31, ↓exT_call G12_29, ↓exT_callo G12_29, ↓exT_calloG G12_29, ↓exT_call G12_19, ↓exT_callo G12_19, ↓exT_calloG G12_19, ↓exT_call G12_18, ↓exT_callo G12_18, ↓exT_calloG G12_18, go_sem, Nat.reduceAdd, Nat.reduceSub, Nat.reduceMul, Nat.reduceEqDiff, Nat.reduceLeDiff, Nat.reduceLT, Nat.reduceBEq, Int.reduceLE, Int.reduceLT, Int.reduceToNat, Int.reduceNeg, Int.reduceAdd, Int.reduceSub, Int.reduceMul, ↓reduceIte]
      rfl
    rintro ⟨x, d, gn, rs, all⟩ ⟨hx, hx2, hg, hall⟩
    simp only at hx hx2 hg hall
    obtain ⟨c1, c2⟩ := kept_len hg
    have c1 : d.sectors.length < 4000000 := by omega
    have c3 : (d.cache.length : Int) = 0 := by omega
    have c2 : d.cache.length < 4000000 := by omega
    have hh := kept_hist hg
    by_cases hx1 : x < tx.length ∧ x < 20
    case neg =>
      have hcr := held_crash hg.held keep
      have hkl : keep.length < 4000000 := by omega
      have hll := hist_len all
      generalize newestL (numbR all) 5 = L at *
      have hL : L.length < 4000000 := by omega
      by_cases hx3 : x < tx.length
      · have hxi : (x : Int) < (tx.length : Int) := by omega
        have hxj : ¬ (x : Int) < 20 := by omega
        simp (maxSteps := 4000000) only [↓exT_call G12_26, ↓exT_callo G12_26, ↓exT_calloG G12_26, ↓exT_call G12_30, ↓exT_callo G12_30, ↓exT_calloG G12_30, ↓exT_call G12_35, ↓exT_callo G12_35, ↓exT_calloG G12_35, ↓exT_call G12_31, ↓exT_callo G12_31, ↓exT_calloG G12_31, ↓exT_call G12_29, ↓exT_callo G12_29, ↓exT_calloG G12_29, ↓exT_call G12_19, ↓exT_callo G12_19, ↓exT_calloG G12_19, ↓exT_call G12_18, ↓exT_callo G12_18, ↓exT_calloG G12_18, hxi, hxj, hh, c1, c2, hcr, hkl, hL, c3, go_sem, Nat.reduceAdd, Nat.reduceSub, Nat.reduceMul, Nat.reduceEqDiff, Nat.reduceLeDiff, Nat.reduceLT, Nat.reduceBEq, Int.reduceLE, Int.reduceLT, Int.reduceToNat, Int.reduceNeg, Int.reduceAdd, Int.reduceSub, Int.reduceMul, ↓reduceIte]
      · have hxi : ¬ (x : Int) < (tx.length : Int) := by omega
        simp (maxSteps := 4000000) only [↓exT_call G12_26, ↓exT_callo G12_26, ↓exT_calloG G12_26, ↓exT_call G12_30, ↓exT_callo G12_30, ↓exT_calloG G12_30, ↓exT_call G12_35, ↓exT_callo G12_35, ↓exT_calloG G12_35, ↓exT_call G12_31, ↓exT_callo G12_31, ↓exT_calloG G12_31, ↓exT_call G12_29, ↓exT_callo G12_29, ↓exT_calloG G12_29, ↓exT_call G12_19, ↓exT_callo G12_19, ↓exT_calloG G12_19, ↓exT_call G12_18, ↓exT_callo G12_18, ↓exT_calloG G12_18, hxi, hh, c1, c2, hcr, hkl, hL, c3, go_sem, Nat.reduceAdd, Nat.reduceSub, Nat.reduceMul, Nat.reduceEqDiff, Nat.reduceLeDiff, Nat.reduceLT, Nat.reduceBEq, Int.reduceLE, Int.reduceLT, Int.reduceToNat, Int.reduceNeg, Int.reduceAdd, Int.reduceSub, Int.reduceMul, ↓reduceIte]
    have hxi : (x : Int) < (tx.length : Int) ∧ (x : Int) < 20 := by omega
    generalize ht : tx.getD x default = t at *
    by_cases htl : 200 < (t.length : Int)
    case pos =>
      simp (maxSteps := 4000000) only [↓exT_call G12_26, ↓exT_callo G12_26, ↓exT_calloG G12_26, ↓exT_call G12_30, ↓exT_callo G12_30, ↓exT_calloG G12_30, ↓exT_call G12_35, ↓exT_callo G12_35, ↓exT_calloG G12_35, ↓exT_call G12_31, ↓exT_callo G12_31, ↓exT_calloG G12_31, ↓exT_call G12_29, ↓exT_callo G12_29, ↓exT_calloG G12_29, ↓exT_call G12_19, ↓exT_callo G12_19, ↓exT_calloG G12_19, ↓exT_call G12_18, ↓exT_callo G12_18, ↓exT_calloG G12_18, hxi.1, hxi.2, ht, htl, go_sem, Nat.reduceAdd, Nat.reduceSub, Nat.reduceMul, Nat.reduceEqDiff, Nat.reduceLeDiff, Nat.reduceLT, Nat.reduceBEq, Int.reduceLE, Int.reduceLT, Int.reduceToNat, Int.reduceNeg, Int.reduceAdd, Int.reduceSub, Int.reduceMul, ↓reduceIte]
    have hsv := kept_save hg (t := t) (by omega) (by omega)
    rcases hsv with ⟨d1, g', rs', h1, h2⟩ | ⟨h1, h2⟩
    · simp (maxSteps := 4000000) only [↓exT_call G12_26, ↓exT_callo G12_26, ↓exT_calloG G12_26, ↓exT_call G12_30, ↓exT_callo G12_30, ↓exT_calloG G12_30, ↓exT_call G12_35, ↓exT_callo G12_35, ↓exT_calloG G12_35, ↓exT_call G12_31, ↓exT_callo G12_31, ↓exT_calloG G12_31, ↓exT_call G12_29, ↓exT_callo G12_29, ↓exT_calloG G12_29, ↓exT_call G12_19, ↓exT_callo G12_19, ↓exT_calloG G12_19, ↓exT_call G12_18, ↓exT_callo G12_18, ↓exT_calloG G12_18, hxi.1, hxi.2, ht, htl, c1, c2, h1, go_sem, Nat.reduceAdd, Nat.reduceSub, Nat.reduceMul, Nat.reduceEqDiff, Nat.reduceLeDiff, Nat.reduceLT, Nat.reduceBEq, Int.reduceLE, Int.reduceLT, Int.reduceToNat, Int.reduceNeg, Int.reduceAdd, Int.reduceSub, Int.reduceMul, ↓reduceIte]
      exact ⟨by omega, ⟨x + 1, d1, g', rs', all ++ [t]⟩, ⟨by simp only; omega, by simp only; omega, h2, by simp; omega⟩, by simp only; omega, by simp, rfl, rfl⟩
    · simp (maxSteps := 4000000) only [↓exT_call G12_26, ↓exT_callo G12_26, ↓exT_calloG G12_26, ↓exT_call G12_30, ↓exT_callo G12_30, ↓exT_calloG G12_30, ↓exT_call G12_35, ↓exT_callo G12_35, ↓exT_calloG G12_35, ↓exT_call G12_31, ↓exT_callo G12_31, ↓exT_calloG G12_31, ↓exT_call G12_29, ↓exT_callo G12_29, ↓exT_calloG G12_29, ↓exT_call G12_19, ↓exT_callo G12_19, ↓exT_calloG G12_19, ↓exT_call G12_18, ↓exT_callo G12_18, ↓exT_calloG G12_18, hxi.1, hxi.2, ht, htl, c1, c2, h1, go_sem, Nat.reduceAdd, Nat.reduceSub, Nat.reduceMul, Nat.reduceEqDiff, Nat.reduceLeDiff, Nat.reduceLT, Nat.reduceBEq, Int.reduceLE, Int.reduceLT, Int.reduceToNat, Int.reduceNeg, Int.reduceAdd, Int.reduceSub, Int.reduceMul, ↓reduceIte]
      exact ⟨by omega, ⟨x + 1, d, gn, rs, all⟩, ⟨by simp only; omega, by simp only; omega, hg, by simp only; omega⟩, by simp only; omega, by simp, rfl, rfl⟩

end Go.Proofs.Ytniioedflegdkaa
