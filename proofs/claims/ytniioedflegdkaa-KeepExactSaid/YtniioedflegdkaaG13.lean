/- What is fixed of the revisions: a fixed answer. -/
import Derived.Test.YtniioedflegdkaaGB
import Derived.Test.YtniioedflegdkaaLA
set_option linter.all false
namespace Go.Proofs.Ytniioedflegdkaa
open Go Go.Ab Go.Proofs Go.Fs
def awakeKG : List V → Option V
  | [] => some (.c (.s (.bool true)))
  | _ => none
theorem awakeKG_call  {gt : Bool} {K : V → Prop} : callE awakeKG [] gt K = bindV (ifV gt (.c (.s (.bool true)))) K := callE_all rfl
theorem awakeKG_callo  {m : Nat → Option Ab.Obj} {locs : List Nat} {K : V → (Nat → Option Ab.Obj) → Prop} : callO awakeKG (some []) m locs K = K (.c (.s (.bool true))) (sealW m locs (.c (.s (.bool true)))) := callO_all rfl
attribute [go_sem] awakeKG_call awakeKG_callo

def sc_law19_awake : SC := .seq (.reg [⟨some 0, .mv, [.k (.c (.s (.bool false)))], none⟩]) (.seq (.reg [⟨some 12, .call 26, [.k (.c (.s (.int .i64 21)))], none⟩,
⟨some 11, .mv, [.t 12], none⟩,
⟨some 13, .ext 0, [.t 11], none⟩,
⟨some 14, .ext 1, [.t 11], none⟩,
⟨some 1, .alloc [.list 0 [] true, .list 0 [] true], [], none⟩,
⟨none, .store 2 true, [.t 1, .t 13], none⟩,
⟨some 2, .mv, [.t 14], none⟩]) (.seq (.reg [⟨some 3, .mv, [.k (.c (.s (.int .i64 0)))], none⟩]) (.seq (.seq (.reg [⟨some 15, .bslice 1 6 [.str []] [0, 1, 2, 3, 4, 5], [.k (.c (.s (.str [97]))), .k (.c (.s (.str [98]))), .k (.c (.s (.str [99]))), .k (.c (.s (.str [100]))), .k (.c (.s (.str [101]))), .k (.c (.s (.str [102])))], none⟩,
⟨some 16, .len false, [.t 15], none⟩,
⟨some 17, .mv, [.k (.c (.s (.int .i64 0)))], none⟩]) (.block 0 (.loop (.seq (.reg [⟨some 18, .bin .lss, [.t 17, .t 16], none⟩]) (.seq (.cond (.t 18) (.skip) (.exit 0)) (.seq (.block 1 (.seq (.reg [⟨some 19, .iadr 1, [.t 15, .t 17], none⟩,
⟨some 20, .load 1 false, [.t 19], none⟩,
⟨some 5, .mv, [.t 20], none⟩]) (.seq (.reg [⟨some 22, .load 2 true, [.t 1], none⟩,
⟨some 23, .mv, [.t 5], none⟩,
⟨some 24, .call 35, [.t 22, .t 23], none⟩,
⟨some 21, .mv, [.t 24], none⟩,
⟨some 25, .ext 0, [.t 21], none⟩,
⟨some 26, .ext 1, [.t 21], none⟩,
⟨some 27, .ext 2, [.t 21], none⟩,
⟨some 6, .alloc [.list 0 [] true, .list 0 [] true], [], none⟩,
⟨none, .store 2 true, [.t 6, .t 25], none⟩,
⟨some 7, .mv, [.t 26], none⟩,
⟨some 8, .mv, [.t 27], none⟩]) (.seq (.seq (.reg [⟨some 28, .mv, [.t 8], none⟩,
⟨some 29, .bin .neq, [.t 28, .k (.c (.s (.int .i64 0)))], none⟩]) (.cond (.t 29) (.seq (.reg [⟨some 0, .mv, [.k (.c (.s (.bool false)))], none⟩]) (.ret)) (.skip))) (.reg [⟨some 30, .load 2 true, [.t 6], none⟩,
⟨some 31, .mv, [.t 7], none⟩,
⟨none, .store 2 true, [.t 1, .t 30], none⟩,
⟨some 3, .mv, [.t 31], none⟩]))))) (.reg [⟨some 32, .bin .add, [.t 17, .k (.c (.s (.int .i64 1)))], none⟩,
⟨some 17, .mv, [.t 32], none⟩]))))))) (.seq (.reg [⟨some 34, .load 2 true, [.t 1], none⟩,
⟨some 35, .call 31, [.t 34], none⟩,
⟨some 33, .mv, [.t 35], none⟩,
⟨some 36, .ext 0, [.t 33], none⟩,
⟨some 37, .ext 1, [.t 33], none⟩,
⟨some 9, .mv, [.t 36], none⟩,
⟨some 10, .mv, [.t 37], none⟩]) (.seq (.reg [⟨some 38, .mv, [.t 2], none⟩,
⟨some 39, .bin .eql, [.t 38, .k (.c (.s (.int .i64 0)))], none⟩,
⟨some 40, .mv, [.t 39], none⟩,
⟨some 41, .mv, [.t 3], some (40, true)⟩,
⟨some 42, .bin .eql, [.t 41, .k (.c (.s (.int .i64 6)))], some (40, true)⟩,
⟨some 43, .pick, [.t 40, .t 42, .k (.c (.s (.bool false)))], none⟩,
⟨some 44, .mv, [.t 43], none⟩,
⟨some 45, .mv, [.t 10], some (44, true)⟩,
⟨some 46, .bin .eql, [.t 45, .k (.c (.s (.int .i64 0)))], some (44, true)⟩,
⟨some 47, .pick, [.t 44, .t 46, .k (.c (.s (.bool false)))], none⟩,
⟨some 48, .mv, [.t 47], none⟩,
⟨some 49, .mv, [.t 9], some (48, true)⟩,
⟨some 50, .len false, [.t 49], some (48, true)⟩,
⟨some 51, .bin .eql, [.t 50, .k (.c (.s (.int .i64 5)))], some (48, true)⟩,
⟨some 52, .pick, [.t 48, .t 51, .k (.c (.s (.bool false)))], none⟩,
⟨some 53, .mv, [.t 52], none⟩,
⟨some 54, .mv, [.t 9], some (53, true)⟩,
⟨some 55, .iadr 2, [.t 54, .k (.c (.s (.int .i64 0)))], some (53, true)⟩,
⟨some 56, .fadr 0, [.t 55], some (53, true)⟩,
⟨some 57, .load 1 false, [.t 56], some (53, true)⟩,
⟨some 58, .bin .eql, [.t 57, .k (.c (.s (.int .i64 2)))], some (53, true)⟩,
⟨some 59, .pick, [.t 53, .t 58, .k (.c (.s (.bool false)))], none⟩,
⟨some 60, .mv, [.t 59], none⟩,
⟨some 61, .mv, [.t 9], some (60, true)⟩,
⟨some 62, .iadr 2, [.t 61, .k (.c (.s (.int .i64 4)))], some (60, true)⟩,
⟨some 63, .fadr 1, [.t 62], some (60, true)⟩,
⟨some 64, .load 1 false, [.t 63], some (60, true)⟩,
⟨some 65, .bin .eql, [.t 64, .k (.c (.s (.str [102])))], some (60, true)⟩,
⟨some 66, .pick, [.t 60, .t 65, .k (.c (.s (.bool false)))], none⟩,
⟨some 0, .mv, [.t 66], none⟩]) (.ret))))))
noncomputable def G_law19_awake : FuncId → Ab.Spec := addS (addS (addS (noS) 26 (plain newG)) 35 (plain saveG)) 31 (plain histG)
theorem G_law19_awake_ok : ∀ f, Contract Try.prog f (G_law19_awake f) := (addS_ok (addS_ok (addS_ok (noS_ok _) contract_disk_New) contract_keep_Save) contract_keep_History)
theorem G30_26 : G_law19_awake 26 = plain newG := by simp [G_law19_awake, addS]
theorem G30_35 : G_law19_awake 35 = plain saveG := by simp [G_law19_awake, addS]
theorem G30_31 : G_law19_awake 31 = plain histG := by simp [G_law19_awake, addS]
set_option maxHeartbeats 16000000 in
set_option maxRecDepth 1000000 in
set_option linter.unusedSimpArgs false in
set_option linter.unusedVariables false in
theorem contract_law19_awake : Contract Try.prog 30 (plain awakeKG) := by
  have hb : ∃ c, Try.f30.body = some c ∧ codeOk 67 c = true ∧ cCode Try.prog c = sc_law19_awake := ⟨_, rfl, by kernel_rfl, by kernel_rfl⟩
  obtain ⟨c, hb1, hb2, hb3⟩ := hb
  refine contract_of (n := 0) G_law19_awake_ok hB hD Try.func30 hb1 (by kernel_rfl) hb2 hb3 (rs := [.tmp 0]) (by kernel_rfl) (by decide) ?_ ?_
  · intro args x h
    unfold plain awakeKG at h
    split at h <;> simp_all
  · intro args r hr
    unfold plain awakeKG at hr
    split at hr
    case h_2 => cases hr
    simp only [Option.map_some, Option.some.injEq] at hr
    subst hr
    unfold sc_law19_awake
    have hnd : newDI 21 = newD 21 := rfl
    have hne : newE 21 = 0 := by decide
    have hgo := kept_new (N := 21) (by omega)
    generalize newD 21 = d0 at *
    simp (maxSteps := 4000000) only [↓exT_call G30_26, ↓exT_callo G30_26, ↓exT_calloG G30_26, ↓exT_call G30_35, ↓exT_callo G30_35, ↓exT_calloG G30_35, ↓exT_call G30_31, ↓exT_callo G30_31, ↓exT_calloG G30_31, hnd, hne, go_sem, Nat.reduceAdd, Nat.reduceSub, Nat.reduceMul, Nat.reduceEqDiff, Nat.reduceLeDiff, Nat.reduceLT, Nat.reduceBEq, Int.reduceLE, Int.reduceLT, Int.reduceToNat, Int.reduceNeg, Int.reduceAdd, Int.reduceSub, Int.reduceMul, ↓reduceIte]
    obtain ⟨tx, htx⟩ : ∃ tx : List Bs, tx = [[97], [98], [99], [100], [101], [102]] := ⟨_, rfl⟩
    have hen : encs strE tx = [[.str [97]], [.str [98]], [.str [99]], [.str [100]], [.str [101]], [.str [102]]] := by rw [htx]; rfl
    have hlen : tx.length = 6 := by rw [htx]; rfl
    have hone : ∀ s ∈ tx, s.length = 1 := by rw [htx]; decide
    refine awp_loopM (α := Nat × Disk × Nat × List Rec) (fun y => [(1, .c (.ptr 1 0)), (2, .c (.s (.int .i64 0))), (3, .c (.s (.int .i64 y.1))), (15, .c (.s (.list 1 (encs strE tx) false))), (16, .c (.s (.int .i64 6))), (17, .c (.s (.int .i64 y.1)))])
      (fun y => [(1, .box [.s (.list 1 (encs strE (y.2.1).sectors) false), .s (.list 2 (encs wrE (y.2.1).cache) false)])]) (fun y => 6 - y.1) (0, d0, 0, []) (fun y => y.1 ≤ 6 ∧ Kept 21 y.2.1 y.2.2.1 y.2.2.2 (tx.take y.1)) ⟨Nat.zero_le _, hgo⟩ ?_ ?_
    · refine Weak.meets ?_
      simp (maxSteps := 4000000) only [↓exT_call G30_26, ↓exT_callo G30_26, ↓exT_calloG G30_26, ↓exT_call G30_35, ↓exT_callo G30_35, ↓exT_calloG G30_35, ↓exT_call G30_31, ↓exT_callo G30_31, ↓exT_calloG G30_31, hen, go_sem, Nat.reduceAdd, Nat.reduceSub, Nat.reduceMul, Nat.reduceEqDiff, Nat.reduceLeDiff, Nat.reduceLT, Nat.reduceBEq, Int.reduceLE, Int.reduceLT, Int.reduceToNat, Int.reduceNeg, Int.reduceAdd, Int.reduceSub, Int.reduceMul, ↓reduceIte]
      exact ⟨rfl, rfl, rfl⟩
    rintro ⟨x, d, gn, rs⟩ ⟨hx, hg⟩
    simp only at hx hg
    obtain ⟨c1, c2⟩ := kept_len hg
    have c1 : d.sectors.length < 4000000 := by omega
    have c2 : d.cache.length < 4000000 := by omega
    have hh := kept_hist hg
    by_cases hx1 : x < 6
    case neg =>
      have hxi : ¬ (x : Int) < 6 := by omega
      obtain rfl : x = 6 := by omega
      rw [List.take_of_length_le (by omega)] at hh
      generalize hL : newestL (numbR tx) 5 = L at *
      have l1 : (L.length : Int) = 5 := by rw [← hL, htx]; rfl
      have l2 : (L.getD 0 default).num = 2 := by rw [← hL, htx]; rfl
      have l3 : (L.getD 4 default).text = [102] := by rw [← hL, htx]; rfl
      have l4 : (0 : Int) < 5 ∧ (4 : Int) < 5 := by omega
      have l5 : ((6 : Nat) : Int) = 6 := rfl
      have l6 : ¬ (6 : Int) < 6 := by omega
      have l7 : (encs recE L).getD 0 [] = recE (L.getD 0 default) := encs_getN (by omega)
      have l8 : (encs recE L).getD 4 [] = recE (L.getD 4 default) := encs_getN (by omega)
      simp (maxSteps := 4000000) only [↓exT_call G30_26, ↓exT_callo G30_26, ↓exT_calloG G30_26, ↓exT_call G30_35, ↓exT_callo G30_35, ↓exT_calloG G30_35, ↓exT_call G30_31, ↓exT_callo G30_31, ↓exT_calloG G30_31, hxi, l5, l6, hh, c1, c2, l1, l2, l3, l4.1, l4.2, l7, l8, go_sem, Nat.reduceAdd, Nat.reduceSub, Nat.reduceMul, Nat.reduceEqDiff, Nat.reduceLeDiff, Nat.reduceLT, Nat.reduceBEq, Int.reduceLE, Int.reduceLT, Int.reduceToNat, Int.reduceNeg, Int.reduceAdd, Int.reduceSub, Int.reduceMul, ↓reduceIte]
    have hxi : (x : Int) < 6 := by omega
    have hxl : x < tx.length := by omega
    have hxli : (x : Int) < (tx.length : Int) := by omega
    have hxt := hone (tx.getD x default) (mem_getD hxl)
    have htk := take_getD hxl
    generalize ht : tx.getD x default = t at *
    have hsv := kept_save hg (t := t) (by omega) (by rw [List.length_take]; omega)
    rcases hsv with ⟨d1, g', rs', h1, h2⟩ | ⟨h1, h2⟩
    · rw [← htk] at h2
      have hle : ((tx.take x).length : Int) + 1 = (x : Int) + 1 := by rw [List.length_take]; omega
      rw [hle] at h1
      simp (maxSteps := 4000000) only [↓exT_call G30_26, ↓exT_callo G30_26, ↓exT_calloG G30_26, ↓exT_call G30_35, ↓exT_callo G30_35, ↓exT_calloG G30_35, ↓exT_call G30_31, ↓exT_callo G30_31, ↓exT_calloG G30_31, hxi, hxli, ht, c1, c2, h1, go_sem, Nat.reduceAdd, Nat.reduceSub, Nat.reduceMul, Nat.reduceEqDiff, Nat.reduceLeDiff, Nat.reduceLT, Nat.reduceBEq, Int.reduceLE, Int.reduceLT, Int.reduceToNat, Int.reduceNeg, Int.reduceAdd, Int.reduceSub, Int.reduceMul, ↓reduceIte]
      exact ⟨by omega, ⟨x + 1, d1, g', rs'⟩, ⟨by simp only; omega, h2⟩, by simp only; omega, by simp, rfl, rfl⟩
    · exfalso
      refine h2 2 (fun s hs => ?_) (by decide)
      rw [← htk] at hs
      rw [hone s (List.mem_of_mem_take hs)]; decide

end Go.Proofs.Ytniioedflegdkaa
