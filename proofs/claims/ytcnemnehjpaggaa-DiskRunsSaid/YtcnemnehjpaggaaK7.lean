/- The statements on disks, as functions: the first ones. -/
import Derived.Test.YtcnemnehjpaggaaK6
import Derived.Test.YtcnemnehjpaggaaD3
set_option linter.all false
namespace Go.Proofs.Ytcnemnehjpaggaa
open Go Go.Ab Go.Proofs Go.Fs
theorem zero_at (i : Nat) : (List.replicate 32 (0 : UInt8)).getD i 0 = 0 := by
  rw [List.getD_eq_getElem?_getD, List.getElem?_replicate]; split <;> rfl
theorem wr_app {l : List Wr} {a : Int} {t : Bs} : encs wrE l ++ [[.int .i64 a, .str t]] = encs wrE (l ++ [⟨a, t⟩]) := by rw [encs_append]; rfl
def dNewG : List V → Option V
  | [.c (.s (.int .i64 n))] => some (.c (.s (.bool true)))
  | _ => none
theorem dNewG_call {n : Int} {gt : Bool} {K : V → Prop} : callE dNewG [.c (.s (.int .i64 n))] gt K = bindV (ifV gt (.c (.s (.bool true)))) K := callE_all rfl
theorem dNewG_callo {n : Int} {m : Nat → Option Ab.Obj} {locs : List Nat} {K : V → (Nat → Option Ab.Obj) → Prop} : callO dNewG (some [.c (.s (.int .i64 n))]) m locs K = K (.c (.s (.bool true))) (sealW m locs (.c (.s (.bool true)))) := callO_all rfl
attribute [go_sem] dNewG_call dNewG_callo

def sc_law17_DiskNew : SC := .seq (.reg [⟨some 2, .mv, [.k (.c (.s (.bool false)))], none⟩]) (.seq (.reg [⟨some 9, .mv, [.t 0], none⟩,
⟨some 10, .call 10, [.t 9], none⟩,
⟨some 8, .mv, [.t 10], none⟩,
⟨some 11, .ext 0, [.t 8], none⟩,
⟨some 12, .ext 1, [.t 8], none⟩,
⟨some 3, .alloc [.list 0 [] true, .list 0 [] true], [], none⟩,
⟨none, .store 2 true, [.t 3, .t 11], none⟩,
⟨some 4, .mv, [.t 12], none⟩]) (.seq (.seq (.reg [⟨some 13, .mv, [.t 0], none⟩,
⟨some 14, .bin .lss, [.t 13, .k (.c (.s (.int .i64 1)))], none⟩,
⟨some 15, .mv, [.t 14], none⟩,
⟨some 16, .mv, [.t 0], some (15, false)⟩,
⟨some 17, .bin .gtr, [.t 16, .k (.c (.s (.int .i64 300)))], some (15, false)⟩,
⟨some 18, .pick, [.t 15, .k (.c (.s (.bool true))), .t 17], none⟩]) (.cond (.t 18) (.seq (.reg [⟨some 19, .fadr 0, [.t 3], none⟩,
⟨some 20, .load 1 false, [.t 19], none⟩,
⟨some 21, .len false, [.t 20], none⟩,
⟨some 22, .fadr 1, [.t 3], none⟩,
⟨some 23, .load 1 false, [.t 22], none⟩,
⟨some 24, .len false, [.t 23], none⟩,
⟨some 25, .bin .add, [.t 21, .t 24], none⟩,
⟨some 26, .bin .eql, [.t 25, .k (.c (.s (.int .i64 0)))], none⟩,
⟨some 27, .mv, [.t 26], none⟩,
⟨some 28, .mv, [.t 4], some (27, true)⟩,
⟨some 29, .bin .eql, [.t 28, .k (.c (.s (.int .i64 1)))], some (27, true)⟩,
⟨some 30, .pick, [.t 27, .t 29, .k (.c (.s (.bool false)))], none⟩,
⟨some 31, .mv, [.t 30], none⟩,
⟨some 32, .call 11, [], some (31, true)⟩,
⟨some 33, .pick, [.t 31, .t 32, .k (.c (.s (.bool false)))], none⟩,
⟨some 2, .mv, [.t 33], none⟩]) (.ret)) (.skip))) (.seq (.seq (.reg [⟨some 34, .fadr 0, [.t 3], none⟩,
⟨some 35, .load 1 false, [.t 34], none⟩,
⟨some 36, .len false, [.t 35], none⟩,
⟨some 37, .mv, [.k (.c (.s (.int .i64 0)))], none⟩]) (.block 0 (.loop (.seq (.reg [⟨some 38, .bin .lss, [.t 37, .t 36], none⟩]) (.seq (.cond (.t 38) (.skip) (.exit 0)) (.seq (.block 1 (.seq (.reg [⟨some 39, .iadr 1, [.t 35, .t 37], none⟩,
⟨some 40, .load 1 false, [.t 39], none⟩,
⟨some 6, .mv, [.t 40], none⟩]) (.seq (.seq (.reg [⟨some 41, .mv, [.t 6], none⟩,
⟨some 42, .len true, [.t 41], none⟩,
⟨some 43, .mv, [.k (.c (.s (.int .i64 0)))], none⟩]) (.block 2 (.loop (.seq (.reg [⟨some 44, .bin .lss, [.t 43, .t 42], none⟩]) (.seq (.cond (.t 44) (.skip) (.exit 2)) (.seq (.block 3 (.seq (.reg [⟨some 45, .mv, [.t 43], none⟩,
⟨some 7, .mv, [.t 45], none⟩]) (.seq (.reg [⟨some 46, .mv, [.t 6], none⟩,
⟨some 47, .mv, [.t 7], none⟩,
⟨some 48, .idx, [.t 46, .t 47], none⟩,
⟨some 49, .bin .neq, [.t 48, .k (.c (.s (.int .u8 0)))], none⟩]) (.cond (.t 49) (.seq (.reg [⟨some 2, .mv, [.k (.c (.s (.bool false)))], none⟩]) (.ret)) (.skip))))) (.reg [⟨some 50, .bin .add, [.t 43, .k (.c (.s (.int .i64 1)))], none⟩,
⟨some 43, .mv, [.t 50], none⟩]))))))) (.seq (.reg [⟨some 51, .mv, [.t 6], none⟩,
⟨some 52, .len true, [.t 51], none⟩,
⟨some 53, .bin .neq, [.t 52, .k (.c (.s (.int .i64 32)))], none⟩]) (.cond (.t 53) (.seq (.reg [⟨some 2, .mv, [.k (.c (.s (.bool false)))], none⟩]) (.ret)) (.skip)))))) (.reg [⟨some 54, .bin .add, [.t 37, .k (.c (.s (.int .i64 1)))], none⟩,
⟨some 37, .mv, [.t 54], none⟩]))))))) (.seq (.reg [⟨some 55, .fadr 0, [.t 3], none⟩,
⟨some 56, .load 1 false, [.t 55], none⟩,
⟨some 57, .len false, [.t 56], none⟩,
⟨some 58, .mv, [.t 0], none⟩,
⟨some 59, .bin .eql, [.t 57, .t 58], none⟩,
⟨some 60, .mv, [.t 59], none⟩,
⟨some 61, .fadr 1, [.t 3], some (60, true)⟩,
⟨some 62, .load 1 false, [.t 61], some (60, true)⟩,
⟨some 63, .len false, [.t 62], some (60, true)⟩,
⟨some 64, .bin .eql, [.t 63, .k (.c (.s (.int .i64 0)))], some (60, true)⟩,
⟨some 65, .pick, [.t 60, .t 64, .k (.c (.s (.bool false)))], none⟩,
⟨some 66, .mv, [.t 65], none⟩,
⟨some 67, .mv, [.t 4], some (66, true)⟩,
⟨some 68, .bin .eql, [.t 67, .k (.c (.s (.int .i64 0)))], some (66, true)⟩,
⟨some 69, .pick, [.t 66, .t 68, .k (.c (.s (.bool false)))], none⟩,
⟨some 70, .mv, [.t 69], none⟩,
⟨some 71, .call 11, [], some (70, true)⟩,
⟨some 72, .pick, [.t 70, .t 71, .k (.c (.s (.bool false)))], none⟩,
⟨some 2, .mv, [.t 72], none⟩]) (.ret)))))
noncomputable def G_law17_DiskNew : FuncId → Ab.Spec := addS (addS (noS) 10 (plain newG)) 11 (plain awakeG)
theorem G_law17_DiskNew_ok : ∀ f, Contract Try.prog f (G_law17_DiskNew f) := (addS_ok (addS_ok (noS_ok _) contract_disk_New) contract_law17_awake)
theorem G3_10 : G_law17_DiskNew 10 = plain newG := by simp [G_law17_DiskNew, addS]
theorem G3_11 : G_law17_DiskNew 11 = plain awakeG := by simp [G_law17_DiskNew, addS]
set_option maxHeartbeats 16000000 in
set_option maxRecDepth 1000000 in
set_option linter.unusedSimpArgs false in
set_option linter.unusedVariables false in
theorem contract_law17_DiskNew : Contract Try.prog 3 (plain dNewG) := by
  have hb : ∃ c, Try.f3.body = some c ∧ codeOk 73 c = true ∧ cCode Try.prog c = sc_law17_DiskNew := ⟨_, rfl, by kernel_rfl, by kernel_rfl⟩
  obtain ⟨c, hb1, hb2, hb3⟩ := hb
  refine contract_of (n := 1) G_law17_DiskNew_ok hB hD Try.func3 hb1 (by kernel_rfl) hb2 hb3 (rs := [.tmp 2]) (by kernel_rfl) (by decide) ?_ ?_
  · intro args x h
    unfold plain dNewG at h
    split at h <;> simp_all
  · intro args r hr
    unfold plain dNewG at hr
    split at hr
    case h_2 => cases hr
    rename_i n
    simp only [Option.map_some, Option.some.injEq] at hr
    subst hr
    unfold sc_law17_DiskNew
    by_cases h : 1 ≤ n ∧ n ≤ 300
    case neg =>
      have e : (decide (n < 1) || decide (300 < n)) = true := by simp; omega
      have h1 : (newDI n).sectors.length = 0 := by show (newS n).length = 0; unfold newS; rw [if_neg h]; rfl
      have h2 : newE n = 1 := by unfold newE; rw [if_neg h]
      have h3 : (newDI n).cache.length = 0 := rfl
      simp +contextual (maxSteps := 4000000) only [↓exT_call G3_10, ↓exT_callo G3_10, ↓exT_calloG G3_10, ↓exT_call G3_11, ↓exT_callo G3_11, ↓exT_calloG G3_11, e, h1, h2, h3, go_sem, Nat.reduceAdd, Nat.reduceSub, Nat.reduceMul, Nat.reduceEqDiff, Nat.reduceLeDiff, Nat.reduceLT, Nat.reduceBEq, Int.reduceLE, Int.reduceLT, Int.reduceToNat, Int.reduceNeg, Int.reduceAdd, Int.reduceSub, Int.reduceMul, ↓reduceIte]
      simp
    have e : (decide (n < 1) || decide (300 < n)) = false := by simp; omega
    have h2 : newE n = 0 := by unfold newE; rw [if_pos h]
    have hs : (newDI n).sectors = List.replicate n.toNat (List.replicate 32 0) := by show newS n = _; unfold newS; rw [if_pos h]
    have h1 : (newDI n).sectors.length = n.toNat := by rw [hs]; simp
    have h3 : (newDI n).cache.length = 0 := rfl
    generalize hd : newDI n = d at *
    simp +contextual (maxSteps := 4000000) only [↓exT_call G3_10, ↓exT_callo G3_10, ↓exT_calloG G3_10, ↓exT_call G3_11, ↓exT_callo G3_11, ↓exT_calloG G3_11, e, h2, hd, go_sem, Nat.reduceAdd, Nat.reduceSub, Nat.reduceMul, Nat.reduceEqDiff, Nat.reduceLeDiff, Nat.reduceLT, Nat.reduceBEq, Int.reduceLE, Int.reduceLT, Int.reduceToNat, Int.reduceNeg, Int.reduceAdd, Int.reduceSub, Int.reduceMul, ↓reduceIte]
    refine awp_loopM (α := Nat) (fun i => [(0, .c (.s (.int .i64 n))), (3, .c (.ptr 3 0)), (4, .c (.s (.int .i64 0))), (35, .c (.s (.list 1 (encs strE d.sectors) false))), (36, .c (.s (.int .i64 d.sectors.length))), (37, .c (.s (.int .i64 i)))])
      (fun _ => [(3, .box [.s (.list 1 (encs strE d.sectors) false), .s (.list 2 (encs wrE d.cache) false)])]) (fun i => d.sectors.length - i) 0 (fun i => i ≤ d.sectors.length) (Nat.zero_le _) (Weak.meets ?_) ?_
    · simp +contextual (maxSteps := 4000000) only [↓exT_call G3_10, ↓exT_callo G3_10, ↓exT_calloG G3_10, ↓exT_call G3_11, ↓exT_callo G3_11, ↓exT_calloG G3_11, go_sem, Nat.reduceAdd, Nat.reduceSub, Nat.reduceMul, Nat.reduceEqDiff, Nat.reduceLeDiff, Nat.reduceLT, Nat.reduceBEq, Int.reduceLE, Int.reduceLT, Int.reduceToNat, Int.reduceNeg, Int.reduceAdd, Int.reduceSub, Int.reduceMul, ↓reduceIte]
      simp
    intro x hx
    by_cases hxl : x < d.sectors.length
    · have hxi : (x : Int) < (d.sectors.length : Int) := by omega
      have hg : d.sectors.getD x default = List.replicate 32 0 := by
        rw [hs]
        have hx1 : x < n.toNat := by omega
        rw [List.getD_eq_getElem?_getD, List.getElem?_replicate, if_pos hx1]; rfl
      have h7 : ((List.replicate 32 (0 : UInt8)).length : Int) = 32 := by decide
      have h7' : (List.replicate 32 (0 : UInt8)).length = 32 := by decide
      simp +contextual (maxSteps := 4000000) only [↓exT_call G3_10, ↓exT_callo G3_10, ↓exT_calloG G3_10, ↓exT_call G3_11, ↓exT_callo G3_11, ↓exT_calloG G3_11, hxi, hg, go_sem, Nat.reduceAdd, Nat.reduceSub, Nat.reduceMul, Nat.reduceEqDiff, Nat.reduceLeDiff, Nat.reduceLT, Nat.reduceBEq, Int.reduceLE, Int.reduceLT, Int.reduceToNat, Int.reduceNeg, Int.reduceAdd, Int.reduceSub, Int.reduceMul, ↓reduceIte]
      refine awp_loopM (α := Nat) (fun i => [(0, .c (.s (.int .i64 n))), (3, .c (.ptr 3 0)), (4, .c (.s (.int .i64 0))), (35, .c (.s (.list 1 (encs strE d.sectors) false))), (36, .c (.s (.int .i64 d.sectors.length))), (37, .c (.s (.int .i64 x))), (6, .c (.s (.str (List.replicate 32 0)))), (42, .c (.s (.int .i64 32))), (43, .c (.s (.int .i64 i)))])
        (fun _ => [(3, .box [.s (.list 1 (encs strE d.sectors) false), .s (.list 2 (encs wrE d.cache) false)])]) (fun i => 32 - i) 0 (fun i => i ≤ 32) (Nat.zero_le _) (Weak.meets ?_) ?_
      · simp +contextual (maxSteps := 4000000) only [↓exT_call G3_10, ↓exT_callo G3_10, ↓exT_calloG G3_10, ↓exT_call G3_11, ↓exT_callo G3_11, ↓exT_calloG G3_11, h7, go_sem, Nat.reduceAdd, Nat.reduceSub, Nat.reduceMul, Nat.reduceEqDiff, Nat.reduceLeDiff, Nat.reduceLT, Nat.reduceBEq, Int.reduceLE, Int.reduceLT, Int.reduceToNat, Int.reduceNeg, Int.reduceAdd, Int.reduceSub, Int.reduceMul, ↓reduceIte]
        simp
      intro y hy
      by_cases hyl : y < 32
      · have hyi : (y : Int) < 32 := by omega
        simp +contextual (maxSteps := 4000000) only [↓exT_call G3_10, ↓exT_callo G3_10, ↓exT_calloG G3_10, ↓exT_call G3_11, ↓exT_callo G3_11, ↓exT_calloG G3_11, hyi, h7, zero_at, go_sem, Nat.reduceAdd, Nat.reduceSub, Nat.reduceMul, Nat.reduceEqDiff, Nat.reduceLeDiff, Nat.reduceLT, Nat.reduceBEq, Int.reduceLE, Int.reduceLT, Int.reduceToNat, Int.reduceNeg, Int.reduceAdd, Int.reduceSub, Int.reduceMul, ↓reduceIte]
        exact ⟨by omega, y + 1, by omega, by omega, by omega⟩
      · have hyi : ¬ (y : Int) < 32 := by omega
        simp +contextual (maxSteps := 4000000) only [↓exT_call G3_10, ↓exT_callo G3_10, ↓exT_calloG G3_10, ↓exT_call G3_11, ↓exT_callo G3_11, ↓exT_calloG G3_11, hyi, h7, go_sem, Nat.reduceAdd, Nat.reduceSub, Nat.reduceMul, Nat.reduceEqDiff, Nat.reduceLeDiff, Nat.reduceLT, Nat.reduceBEq, Int.reduceLE, Int.reduceLT, Int.reduceToNat, Int.reduceNeg, Int.reduceAdd, Int.reduceSub, Int.reduceMul, ↓reduceIte]
        exact ⟨by omega, x + 1, by omega, by omega, by omega⟩
    · have hxi : ¬ (x : Int) < n := by omega
      have h1' : (d.sectors.length : Int) = n := by omega
      have h3' : (d.cache.length : Int) = 0 := by omega
      simp +contextual (maxSteps := 4000000) only [↓exT_call G3_10, ↓exT_callo G3_10, ↓exT_calloG G3_10, ↓exT_call G3_11, ↓exT_callo G3_11, ↓exT_calloG G3_11, hxi, h1', h3', go_sem, Nat.reduceAdd, Nat.reduceSub, Nat.reduceMul, Nat.reduceEqDiff, Nat.reduceLeDiff, Nat.reduceLT, Nat.reduceBEq, Int.reduceLE, Int.reduceLT, Int.reduceToNat, Int.reduceNeg, Int.reduceAdd, Int.reduceSub, Int.reduceMul, ↓reduceIte]

end Go.Proofs.Ytcnemnehjpaggaa
