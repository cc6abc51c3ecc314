/- The statements on revisions, as functions: KeepRoom. -/
import Derived.Test.YtniioedflegdkaaG13
set_option linter.all false
namespace Go.Proofs.Ytniioedflegdkaa
open Go Go.Ab Go.Proofs Go.Fs
def lastT (tx : List Bs) (x : Nat) : Bs := if x = 0 then [] else tx.getD (x - 1) default
def kRoomG_enc : (Int) × (List Bs) × (Bool) → List V := fun ⟨a, tx, f⟩ => [.c (.s (.int .u8 a)), .c (.s (.list 1 (encs strE tx) f))]
theorem kRoomG_inj : ∀ x y, kRoomG_enc x = kRoomG_enc y → x = y := by
  rintro ⟨a, tx, f⟩ ⟨a2, tx2, f2⟩ h
  simp only [kRoomG_enc, List.cons.injEq, V.c.injEq, V.agg.injEq, C.s.injEq, S.list.injEq, S.str.injEq, S.int.injEq, S.bool.injEq, S.fn.injEq, S.cref.injEq, strE_inj, true_and, and_true] at h
  simp_all
noncomputable def kRoomG : List V → Option (V) := specE kRoomG_enc (fun ⟨a, tx, f⟩ => 0 ≤ a ∧ a < 256) (fun ⟨a, tx, f⟩ => .c (.s (.bool true)))
theorem kRoomG_eq {a : Int} {tx : List Bs} {f : Bool} [Decidable (0 ≤ a ∧ a < 256)] : kRoomG [.c (.s (.int .u8 a)), .c (.s (.list 1 (encs strE tx) f))] = if 0 ≤ a ∧ a < 256 then some (.c (.s (.bool true))) else none := specE_eq kRoomG_inj (a, tx, f)
theorem kRoomG_call {a : Int} {tx : List Bs} {f : Bool} {gt : Bool} {K : V → Prop} : callE kRoomG [.c (.s (.int .u8 a)), .c (.s (.list 1 (encs strE tx) f))] gt K = ((gt = true → 0 ≤ a ∧ a < 256) ∧ bindV (ifV gt (.c (.s (.bool true)))) K) := by
  have := Classical.propDecidable (0 ≤ a ∧ a < 256)
  exact callE_of kRoomG_eq
theorem kRoomG_callo {a : Int} {tx : List Bs} {f : Bool} {m : Nat → Option Ab.Obj} {locs : List Nat} {K : V → (Nat → Option Ab.Obj) → Prop} : callO kRoomG (some [.c (.s (.int .u8 a)), .c (.s (.list 1 (encs strE tx) f))]) m locs K = ((0 ≤ a ∧ a < 256) ∧ K (.c (.s (.bool true))) (sealW m locs (.c (.s (.bool true))))) := by
  have := Classical.propDecidable (0 ≤ a ∧ a < 256)
  exact callO_of kRoomG_eq
attribute [go_sem] kRoomG_call kRoomG_callo

def sc_law19_KeepRoom : SC := .seq (.reg [⟨some 4, .mv, [.k (.c (.s (.bool false)))], none⟩]) (.seq (.reg [⟨some 16, .mv, [.t 0], none⟩,
⟨some 17, .bin .rem, [.t 16, .k (.c (.s (.int .u8 31)))], none⟩,
⟨some 18, .conv .i64, [.t 17], none⟩,
⟨some 19, .bin .add, [.k (.c (.s (.int .i64 31))), .t 18], none⟩,
⟨some 20, .call 26, [.t 19], none⟩,
⟨some 15, .mv, [.t 20], none⟩,
⟨some 21, .ext 0, [.t 15], none⟩,
⟨some 22, .ext 1, [.t 15], none⟩,
⟨some 5, .alloc [.list 0 [] true, .list 0 [] true], [], none⟩,
⟨none, .store 2 true, [.t 5, .t 21], none⟩,
⟨some 6, .mv, [.t 22], none⟩]) (.seq (.seq (.reg [⟨some 23, .mv, [.t 6], none⟩,
⟨some 24, .bin .neq, [.t 23, .k (.c (.s (.int .i64 0)))], none⟩]) (.cond (.t 24) (.seq (.reg [⟨some 4, .mv, [.k (.c (.s (.bool false)))], none⟩]) (.ret)) (.skip))) (.seq (.reg [⟨some 7, .mv, [.k (.c (.s (.int .i64 0)))], none⟩]) (.seq (.reg [⟨some 8, .mv, [.k (.c (.s (.str [])))], none⟩]) (.seq (.seq (.reg [⟨some 9, .mv, [.k (.c (.s (.int .i64 0)))], none⟩]) (.block 0 (.loop (.seq (.seq (.reg [⟨some 25, .mv, [.t 9], none⟩,
⟨some 26, .mv, [.t 1], none⟩,
⟨some 27, .len false, [.t 26], none⟩,
⟨some 28, .bin .lss, [.t 25, .t 27], none⟩,
⟨some 29, .mv, [.t 28], none⟩,
⟨some 30, .mv, [.t 9], some (29, true)⟩,
⟨some 31, .bin .lss, [.t 30, .k (.c (.s (.int .i64 40)))], some (29, true)⟩,
⟨some 32, .pick, [.t 29, .t 31, .k (.c (.s (.bool false)))], none⟩]) (.cond (.t 32) (.skip) (.exit 0))) (.seq (.block 1 (.seq (.seq (.reg [⟨some 35, .mv, [.t 1], none⟩,
⟨some 36, .mv, [.t 9], none⟩,
⟨some 37, .iadr 1, [.t 35, .t 36], none⟩,
⟨some 38, .load 1 false, [.t 37], none⟩,
⟨some 39, .len true, [.t 38], none⟩,
⟨some 40, .bin .gtr, [.t 39, .k (.c (.s (.int .i64 62)))], none⟩]) (.cond (.t 40) (.seq (.reg [⟨some 41, .call 30, [], none⟩,
⟨some 4, .mv, [.t 41], none⟩]) (.ret)) (.skip))) (.seq (.regD [⟨some 43, .load 2 true, [.t 5], none⟩,
⟨some 44, .mv, [.t 1], none⟩,
⟨some 45, .mv, [.t 9], none⟩,
⟨some 46, .iadr 1, [.t 44, .t 45], none⟩,
⟨some 47, .load 1 false, [.t 46], none⟩,
⟨some 48, .call 35, [.t 43, .t 47], none⟩,
⟨some 42, .mv, [.t 48], none⟩,
⟨some 49, .ext 0, [.t 42], none⟩,
⟨some 50, .ext 1, [.t 42], none⟩,
⟨some 51, .ext 2, [.t 42], none⟩,
⟨some 10, .alloc [.list 0 [] true, .list 0 [] true], [], none⟩,
⟨none, .store 2 true, [.t 10, .t 49], none⟩,
⟨some 11, .mv, [.t 50], none⟩,
⟨some 12, .mv, [.t 51], none⟩] [(0, 10), (3, 10), (4, 10), (5, 10)]) (.seq (.seq (.reg [⟨some 52, .mv, [.t 12], none⟩,
⟨some 53, .bin .neq, [.t 52, .k (.c (.s (.int .i64 0)))], none⟩,
⟨some 54, .mv, [.t 53], none⟩,
⟨some 55, .mv, [.t 11], some (54, false)⟩,
⟨some 56, .mv, [.t 9], some (54, false)⟩,
⟨some 57, .bin .add, [.t 56, .k (.c (.s (.int .i64 1)))], some (54, false)⟩,
⟨some 58, .bin .neq, [.t 55, .t 57], some (54, false)⟩,
⟨some 59, .pick, [.t 54, .k (.c (.s (.bool true))), .t 58], none⟩]) (.cond (.t 59) (.seq (.reg [⟨some 4, .mv, [.k (.c (.s (.bool false)))], none⟩]) (.ret)) (.skip))) (.regD [⟨some 60, .load 2 true, [.t 10], none⟩,
⟨some 61, .mv, [.t 11], none⟩,
⟨some 62, .mv, [.t 1], none⟩,
⟨some 63, .mv, [.t 9], none⟩,
⟨some 64, .iadr 1, [.t 62, .t 63], none⟩,
⟨some 65, .load 1 false, [.t 64], none⟩,
⟨none, .store 2 true, [.t 5, .t 60], none⟩,
⟨some 7, .mv, [.t 61], none⟩,
⟨some 8, .mv, [.t 65], none⟩] [(4, 6), (5, 6)]))))) (.reg [⟨some 33, .mv, [.t 9], none⟩,
⟨some 34, .bin .add, [.t 33, .k (.c (.s (.int .i64 1)))], none⟩,
⟨some 9, .mv, [.t 34], none⟩])))))) (.seq (.reg [⟨some 67, .load 2 true, [.t 5], none⟩,
⟨some 68, .call 31, [.t 67], none⟩,
⟨some 66, .mv, [.t 68], none⟩,
⟨some 69, .ext 0, [.t 66], none⟩,
⟨some 70, .ext 1, [.t 66], none⟩,
⟨some 13, .mv, [.t 69], none⟩,
⟨some 14, .mv, [.t 70], none⟩]) (.seq (.reg [⟨some 71, .mv, [.t 14], none⟩,
⟨some 72, .bin .eql, [.t 71, .k (.c (.s (.int .i64 0)))], none⟩,
⟨some 73, .mv, [.t 72], none⟩,
⟨some 74, .mv, [.t 13], some (73, true)⟩,
⟨some 75, .len false, [.t 74], some (73, true)⟩,
⟨some 76, .mv, [.t 7], some (73, true)⟩,
⟨some 77, .mnx false, [.t 76, .k (.c (.s (.int .i64 5)))], some (73, true)⟩,
⟨some 78, .bin .eql, [.t 75, .t 77], some (73, true)⟩,
⟨some 79, .pick, [.t 73, .t 78, .k (.c (.s (.bool false)))], none⟩,
⟨some 80, .mv, [.t 79], none⟩,
⟨some 81, .mv, [.t 7], some (80, true)⟩,
⟨some 82, .bin .eql, [.t 81, .k (.c (.s (.int .i64 0)))], some (80, true)⟩,
⟨some 83, .mv, [.t 82], some (80, true)⟩,
⟨some 84, .mv, [.t 13], some (83, false)⟩,
⟨some 85, .mv, [.t 13], some (83, false)⟩,
⟨some 86, .len false, [.t 85], some (83, false)⟩,
⟨some 87, .bin .sub, [.t 86, .k (.c (.s (.int .i64 1)))], some (83, false)⟩,
⟨some 88, .iadr 2, [.t 84, .t 87], some (83, false)⟩,
⟨some 89, .fadr 1, [.t 88], some (83, false)⟩,
⟨some 90, .load 1 false, [.t 89], some (83, false)⟩,
⟨some 91, .mv, [.t 8], some (83, false)⟩,
⟨some 92, .bin .eql, [.t 90, .t 91], some (83, false)⟩,
⟨some 93, .mv, [.t 92], some (83, false)⟩,
⟨some 94, .mv, [.t 13], some (93, true)⟩,
⟨some 95, .mv, [.t 13], some (93, true)⟩,
⟨some 96, .len false, [.t 95], some (93, true)⟩,
⟨some 97, .bin .sub, [.t 96, .k (.c (.s (.int .i64 1)))], some (93, true)⟩,
⟨some 98, .iadr 2, [.t 94, .t 97], some (93, true)⟩,
⟨some 99, .fadr 0, [.t 98], some (93, true)⟩,
⟨some 100, .load 1 false, [.t 99], some (93, true)⟩,
⟨some 101, .mv, [.t 7], some (93, true)⟩,
⟨some 102, .bin .eql, [.t 100, .t 101], some (93, true)⟩,
⟨some 103, .pick, [.t 93, .t 102, .k (.c (.s (.bool false)))], some (83, false)⟩,
⟨some 104, .pick, [.t 83, .k (.c (.s (.bool true))), .t 103], some (80, true)⟩,
⟨some 105, .pick, [.t 80, .t 104, .k (.c (.s (.bool false)))], none⟩,
⟨some 106, .mv, [.t 105], none⟩,
⟨some 107, .call 30, [], some (106, true)⟩,
⟨some 108, .pick, [.t 106, .t 107, .k (.c (.s (.bool false)))], none⟩,
⟨some 4, .mv, [.t 108], none⟩]) (.ret))))))))
noncomputable def G_law19_KeepRoom : FuncId → Ab.Spec := addS (addS (addS (addS (noS) 26 (plain newG)) 30 (plain awakeKG)) 35 (plain saveG)) 31 (plain histG)
theorem G_law19_KeepRoom_ok : ∀ f, Contract Try.prog f (G_law19_KeepRoom f) := (addS_ok (addS_ok (addS_ok (addS_ok (noS_ok _) contract_disk_New) contract_law19_awake) contract_keep_Save) contract_keep_History)
theorem G9_26 : G_law19_KeepRoom 26 = plain newG := by simp [G_law19_KeepRoom, addS]
theorem G9_30 : G_law19_KeepRoom 30 = plain awakeKG := by simp [G_law19_KeepRoom, addS]
theorem G9_35 : G_law19_KeepRoom 35 = plain saveG := by simp [G_law19_KeepRoom, addS]
theorem G9_31 : G_law19_KeepRoom 31 = plain histG := by simp [G_law19_KeepRoom, addS]
set_option maxHeartbeats 16000000 in
set_option maxRecDepth 1000000 in
set_option linter.unusedSimpArgs false in
set_option linter.unusedVariables false in
theorem contract_law19_KeepRoom : Contract Try.prog 9 (plain kRoomG) := by
  have hb : ∃ c, Try.f9.body = some c ∧ codeOk 109 c = true ∧ cCode Try.prog c = sc_law19_KeepRoom := ⟨_, rfl, by kernel_rfl, by kernel_rfl⟩
  obtain ⟨c, hb1, hb2, hb3⟩ := hb
  refine contract_of (n := 2) G_law19_KeepRoom_ok hB hD Try.func9 hb1 (by kernel_rfl) hb2 hb3 (rs := [.tmp 4]) (by kernel_rfl) (by decide) ?_ ?_
  · intro args x h
    obtain ⟨y, hy, -⟩ := Option.map_eq_some_iff.1 h
    obtain ⟨⟨a, tx, f⟩, rfl, -⟩ := specE_some hy
    rfl
  · intro args r hr
    obtain ⟨y, hy, rfl⟩ := Option.map_eq_some_iff.1 hr
    obtain ⟨⟨a, tx, f⟩, rfl, hc, rfl⟩ := specE_some hy
    clear hr hy
    have hc : 0 ≤ a ∧ a < 256 := hc
    change awp _ _ (postQ _ (.v (.c (.s (.bool true))))) _
    unfold kRoomG_enc sc_law19_KeepRoom
    obtain ⟨a0, a1⟩ := hc
    have hwr := wrap64 (n := a % 31) (by omega)
    obtain ⟨N, hN, hN1, hN2⟩ : ∃ N : Nat, (31 : Int) + a % 31 = (N : Int) ∧ 31 ≤ N ∧ N ≤ 61 := ⟨(31 + a % 31).toNat, by omega, by omega, by omega⟩
    obtain ⟨hnd, hne⟩ := new_is (N := N) (by omega)
    have hgo := kept_new (N := N) (by omega)
    have hhf : 15 ≤ halfN N := by unfold halfN; omega
    generalize newD N = d0 at *
    simp (maxSteps := 4000000) only [↓exT_call G9_26, ↓exT_callo G9_26, ↓exT_calloG G9_26, ↓exT_call G9_30, ↓exT_callo G9_30, ↓exT_calloG G9_30, ↓exT_call G9_35, ↓exT_callo G9_35, ↓exT_calloG G9_35, ↓exT_call G9_31, ↓exT_callo G9_31, ↓exT_calloG G9_31, hwr, hN, hnd, hne, go_sem, Nat.reduceAdd, Nat.reduceSub, Nat.reduceMul, Nat.reduceEqDiff, Nat.reduceLeDiff, Nat.reduceLT, Nat.reduceBEq, Int.reduceLE, Int.reduceLT, Int.reduceToNat, Int.reduceNeg, Int.reduceAdd, Int.reduceSub, Int.reduceMul, ↓reduceIte]
    repeat (refine ⟨by omega, ?_⟩)
    refine awp_loopM (α := Nat × Disk × Nat × List Rec) (fun y => [(1, .c (.s (.list 1 (encs strE tx) f))), (5, .c (.ptr 5 0)), (7, .c (.s (.int .i64 y.1))), (8, .c (.s (.str (lastT tx y.1)))), (9, .c (.s (.int .i64 y.1)))])
      (fun y => [(5, .box [.s (.list 1 (encs strE (y.2.1).sectors) false), .s (.list 2 (encs wrE (y.2.1).cache) false)])]) (fun y => tx.length - y.1) (0, d0, 0, []) (fun y => y.1 ≤ tx.length ∧ y.1 ≤ 40 ∧ Kept N y.2.1 y.2.2.1 y.2.2.2 (tx.take y.1) ∧ ∀ s ∈ tx.take y.1, s.length ≤ 62) ⟨Nat.zero_le _, Nat.zero_le _, hgo, by simp⟩ ?_ ?_
    · refine Weak.meets ?_
      simp (maxSteps := 4000000) only [↓exT_call G9_26, ↓exT_callo G9_26, ↓exT_calloG G9_26, ↓exT_call G9_30, ↓exT_callo G9_30, ↓exT_calloG G9_30, ↓exT_call G9_35, ↓exT_callo G9_35, ↓exT_calloG G9_35, ↓exT_call G9_31, ↓exT_callo G9_31, ↓exT_calloG G9_31, go_sem, Nat.reduceAdd, Nat.reduceSub, Nat.reduceMul, Nat.reduceEqDiff, Nat.reduceLeDiff, Nat.reduceLT, Nat.reduceBEq, Int.reduceLE, Int.reduceLT, Int.reduceToNat, Int.reduceNeg, Int.reduceAdd, Int.reduceSub, Int.reduceMul, ↓reduceIte]
      exact ⟨rfl, rfl, rfl⟩
    rintro ⟨x, d, gn, rs⟩ ⟨hx, hx2, hg, hall⟩
    simp only at hx hx2 hg hall
    obtain ⟨c1, c2⟩ := kept_len hg
    have c1 : d.sectors.length < 4000000 := by omega
    have c2 : d.cache.length < 4000000 := by omega
    have hh := kept_hist hg
    by_cases hx1 : x < tx.length ∧ x < 40
    case neg =>
      have hll := hist_len (tx.take x)
      rw [List.length_take, Nat.min_eq_left hx] at hll
      cases x with
      | zero =>
        generalize hL : newestL (numbR (tx.take 0)) 5 = L at *
        have l1 : (L.length : Int) = 0 := by omega
        have l2 : ((0 : Nat) : Int) = 0 := rfl
        have l3 : min (0 : Int) 5 = 0 := rfl
        have hxi : ¬ (0 : Int) < (tx.length : Int) := by omega
        simp (maxSteps := 4000000) only [↓exT_call G9_26, ↓exT_callo G9_26, ↓exT_calloG G9_26, ↓exT_call G9_30, ↓exT_callo G9_30, ↓exT_calloG G9_30, ↓exT_call G9_35, ↓exT_callo G9_35, ↓exT_calloG G9_35, ↓exT_call G9_31, ↓exT_callo G9_31, ↓exT_calloG G9_31, l2, hxi, hh, c1, c2, l1, l3, go_sem, Nat.reduceAdd, Nat.reduceSub, Nat.reduceMul, Nat.reduceEqDiff, Nat.reduceLeDiff, Nat.reduceLT, Nat.reduceBEq, Int.reduceLE, Int.reduceLT, Int.reduceToNat, Int.reduceNeg, Int.reduceAdd, Int.reduceSub, Int.reduceMul, ↓reduceIte]
      | succ y =>
        have hyl : y < tx.length := by omega
        have hT : lastT tx (y + 1) = tx.getD y default := by unfold lastT; rw [if_neg (by omega), Nat.add_sub_cancel]
        rw [hist_take hyl] at hh hll
        have hlast := snoc_last (newestL (numbR (tx.take y)) 4) ⟨(y : Int) + 1, tx.getD y default⟩
        generalize newestL (numbR (tx.take y)) 4 ++ [⟨(y : Int) + 1, tx.getD y default⟩] = L at *
        have l0 : (decide ((L.length : Int) = min ((y + 1 : Nat) : Int) 5)) = true := decide_eq_true (by omega)
        have l1 : ¬ ((y + 1 : Nat) : Int) = 0 := by omega
        have eix : ((L.length : Int) - 1).toNat = L.length - 1 := by omega
        have hge : (encs recE L).getD (L.length - 1) [] = recE (L.getD (L.length - 1) default) := encs_getN (by omega)
        have hix : (0 : Int) ≤ (L.length : Int) - 1 ∧ (L.length : Int) - 1 < (L.length : Int) := by omega
        have hnum : (decide ((y : Int) + 1 = ((y + 1 : Nat) : Int))) = true := decide_eq_true (by omega)
        by_cases hx3 : y + 1 < tx.length
        · have hxi : ((y + 1 : Nat) : Int) < (tx.length : Int) := by omega
          have hxj : ¬ ((y + 1 : Nat) : Int) < 40 := by omega
          simp (maxSteps := 4000000) only [↓exT_call G9_26, ↓exT_callo G9_26, ↓exT_calloG G9_26, ↓exT_call G9_30, ↓exT_callo G9_30, ↓exT_calloG G9_30, ↓exT_call G9_35, ↓exT_callo G9_35, ↓exT_calloG G9_35, ↓exT_call G9_31, ↓exT_callo G9_31, ↓exT_calloG G9_31, hxi, hxj, hh, c1, c2, l0, l1, eix, hge, hix.1, hix.2, hlast, hT, hnum, go_sem, Nat.reduceAdd, Nat.reduceSub, Nat.reduceMul, Nat.reduceEqDiff, Nat.reduceLeDiff, Nat.reduceLT, Nat.reduceBEq, Int.reduceLE, Int.reduceLT, Int.reduceToNat, Int.reduceNeg, Int.reduceAdd, Int.reduceSub, Int.reduceMul, ↓reduceIte]
          omega
        · have hxi : ¬ ((y + 1 : Nat) : Int) < (tx.length : Int) := by omega
          simp (maxSteps := 4000000) only [↓exT_call G9_26, ↓exT_callo G9_26, ↓exT_calloG G9_26, ↓exT_call G9_30, ↓exT_callo G9_30, ↓exT_calloG G9_30, ↓exT_call G9_35, ↓exT_callo G9_35, ↓exT_calloG G9_35, ↓exT_call G9_31, ↓exT_callo G9_31, ↓exT_calloG G9_31, hxi, hh, c1, c2, l0, l1, eix, hge, hix.1, hix.2, hlast, hT, hnum, go_sem, Nat.reduceAdd, Nat.reduceSub, Nat.reduceMul, Nat.reduceEqDiff, Nat.reduceLeDiff, Nat.reduceLT, Nat.reduceBEq, Int.reduceLE, Int.reduceLT, Int.reduceToNat, Int.reduceNeg, Int.reduceAdd, Int.reduceSub, Int.reduceMul, ↓reduceIte]
          omega
    have hxi : (x : Int) < (tx.length : Int) ∧ (x : Int) < 40 := by omega
    have htk := take_getD hx1.1
    generalize ht : tx.getD x default = t at *
    by_cases htl : 62 < (t.length : Int)
    case pos =>
      simp (maxSteps := 4000000) only [↓exT_call G9_26, ↓exT_callo G9_26, ↓exT_calloG G9_26, ↓exT_call G9_30, ↓exT_callo G9_30, ↓exT_calloG G9_30, ↓exT_call G9_35, ↓exT_callo G9_35, ↓exT_calloG G9_35, ↓exT_call G9_31, ↓exT_callo G9_31, ↓exT_calloG G9_31, hxi.1, hxi.2, ht, htl, go_sem, Nat.reduceAdd, Nat.reduceSub, Nat.reduceMul, Nat.reduceEqDiff, Nat.reduceLeDiff, Nat.reduceLT, Nat.reduceBEq, Int.reduceLE, Int.reduceLT, Int.reduceToNat, Int.reduceNeg, Int.reduceAdd, Int.reduceSub, Int.reduceMul, ↓reduceIte]
    have hsv := kept_save hg (t := t) (by omega) (by rw [List.length_take]; omega)
    have hall' : ∀ s ∈ tx.take (x + 1), s.length ≤ 62 := by
      intro s hs
      rw [htk] at hs
      rcases List.mem_append.1 hs with h | h
      · exact hall s h
      · rw [List.mem_singleton.1 h]; omega
    rcases hsv with ⟨d1, g', rs', h1, h2⟩ | ⟨h1, h2⟩
    · rw [← htk] at h2
      have hle : ((tx.take x).length : Int) + 1 = (x : Int) + 1 := by rw [List.length_take]; omega
      rw [hle] at h1
      simp (maxSteps := 4000000) only [↓exT_call G9_26, ↓exT_callo G9_26, ↓exT_calloG G9_26, ↓exT_call G9_30, ↓exT_callo G9_30, ↓exT_calloG G9_30, ↓exT_call G9_35, ↓exT_callo G9_35, ↓exT_calloG G9_35, ↓exT_call G9_31, ↓exT_callo G9_31, ↓exT_calloG G9_31, hxi.1, hxi.2, ht, htl, c1, c2, h1, go_sem, Nat.reduceAdd, Nat.reduceSub, Nat.reduceMul, Nat.reduceEqDiff, Nat.reduceLeDiff, Nat.reduceLT, Nat.reduceBEq, Int.reduceLE, Int.reduceLT, Int.reduceToNat, Int.reduceNeg, Int.reduceAdd, Int.reduceSub, Int.reduceMul, ↓reduceIte]
      have hT : t = lastT tx (x + 1) := by unfold lastT; rw [if_neg (by omega), Nat.add_sub_cancel, ht]
      exact ⟨by omega, by omega, ⟨x + 1, d1, g', rs'⟩, ⟨by simp only; omega, by simp only; omega, h2, hall'⟩, by simp only; omega, ⟨by simp, hT, by simp⟩, rfl, rfl⟩
    · exfalso
      refine h2 3 (fun s hs => ?_) (by omega)
      rw [← htk] at hs
      have := hall' s hs
      unfold manyN; omega

end Go.Proofs.Ytniioedflegdkaa
