/- The statements on words, as functions. -/
import Derived.Test.YtkhplfdijadhbaaC3
set_option linter.all false
namespace Go.Proofs.Ytkhplfdijadhbaa
open Go Go.Ab Go.Proofs Go.Fs
def awake01G : List V → Option V
  | [] => some (.c (.s (.bool true)))
  | _ => none
theorem awake01G_call  {gt : Bool} {K : V → Prop} : callE awake01G [] gt K = bindV (ifV gt (.c (.s (.bool true)))) K := callE_all rfl
theorem awake01G_callo  {m : Nat → Option Ab.Obj} {locs : List Nat} {K : V → (Nat → Option Ab.Obj) → Prop} : callO awake01G (some []) m locs K = K (.c (.s (.bool true))) (sealW m locs (.c (.s (.bool true)))) := callO_all rfl

theorem aw1 : quoteT [97, 32, 34, 98, 0] = [34, 97, 32, 92, 34, 98, 92, 120, 48, 48, 34] := by decide +kernel
theorem aw2 : unquoteT [34, 97, 32, 92, 34, 98, 92, 120, 48, 48, 34] = ([97, 32, 34, 98, 0], 0) := by decide +kernel
theorem aw3 : scanC [97, 98, 45, 99, 32, 100] 1 = (4, true) := by decide +kernel
theorem aw4 : plainC [49, 48, 46, 48, 46, 48, 46, 48, 47, 56] = true := by decide +kernel
theorem aw5 : plainC [105, 110, 97, 99, 116, 105, 118, 101, 58] = false := by decide +kernel
def sc_law01_awake : SC := .seq (
 .reg [
   ⟨some 0, .mv, [.k (.c (.s (.bool false)))], none⟩]) (
 .seq (
  .reg [
    ⟨some 8, .call 10, [.k (.c (.s (.str [97, 32, 34, 98, 0])))], none⟩,
    ⟨some 7, .mv, [.t 8], none⟩,
    ⟨some 9, .ext 0, [.t 7], none⟩,
    ⟨some 10, .ext 1, [.t 7], none⟩,
    ⟨some 1, .mv, [.t 9], none⟩,
    ⟨some 2, .mv, [.t 10], none⟩]) (
  .seq (
   .reg [
     ⟨some 12, .mv, [.t 1], none⟩,
     ⟨some 13, .call 13, [.t 12], none⟩,
     ⟨some 11, .mv, [.t 13], none⟩,
     ⟨some 14, .ext 0, [.t 11], none⟩,
     ⟨some 15, .ext 1, [.t 11], none⟩,
     ⟨some 3, .mv, [.t 14], none⟩,
     ⟨some 4, .mv, [.t 15], none⟩]) (
   .seq (
    .reg [
      ⟨some 17, .call 14, [.k (.c (.s (.str [97, 98, 45, 99, 32, 100]))), .k (.c (.s (.int .i64 1)))], none⟩,
      ⟨some 16, .mv, [.t 17], none⟩,
      ⟨some 18, .ext 0, [.t 16], none⟩,
      ⟨some 19, .ext 1, [.t 16], none⟩,
      ⟨some 5, .mv, [.t 18], none⟩,
      ⟨some 6, .mv, [.t 19], none⟩]) (
    .seq (
     .reg [
       ⟨some 20, .mv, [.t 1], none⟩,
       ⟨some 21, .bin .eql, [.t 20, .k (.c (.s (.str [34, 97, 32, 92, 34, 98, 92, 120, 48, 48, 34])))], none⟩,
       ⟨some 22, .mv, [.t 21], none⟩,
       ⟨some 23, .mv, [.t 2], some (22, true)⟩,
       ⟨some 24, .bin .eql, [.t 23, .k (.c (.s (.int .i64 0)))], some (22, true)⟩,
       ⟨some 25, .pick, [.t 22, .t 24, .k (.c (.s (.bool false)))], none⟩,
       ⟨some 26, .mv, [.t 25], none⟩,
       ⟨some 27, .mv, [.t 3], some (26, true)⟩,
       ⟨some 28, .bin .eql, [.t 27, .k (.c (.s (.str [97, 32, 34, 98, 0])))], some (26, true)⟩,
       ⟨some 29, .pick, [.t 26, .t 28, .k (.c (.s (.bool false)))], none⟩,
       ⟨some 30, .mv, [.t 29], none⟩,
       ⟨some 31, .mv, [.t 4], some (30, true)⟩,
       ⟨some 32, .bin .eql, [.t 31, .k (.c (.s (.int .i64 0)))], some (30, true)⟩,
       ⟨some 33, .pick, [.t 30, .t 32, .k (.c (.s (.bool false)))], none⟩,
       ⟨some 34, .mv, [.t 33], none⟩,
       ⟨some 35, .mv, [.t 5], some (34, true)⟩,
       ⟨some 36, .bin .eql, [.t 35, .k (.c (.s (.int .i64 4)))], some (34, true)⟩,
       ⟨some 37, .pick, [.t 34, .t 36, .k (.c (.s (.bool false)))], none⟩,
       ⟨some 38, .mv, [.t 37], none⟩,
       ⟨some 39, .mv, [.t 6], some (38, true)⟩,
       ⟨some 40, .pick, [.t 38, .t 39, .k (.c (.s (.bool false)))], none⟩,
       ⟨some 41, .mv, [.t 40], none⟩,
       ⟨some 42, .call 11, [.k (.c (.s (.str [49, 48, 46, 48, 46, 48, 46, 48, 47, 56])))], some (41, true)⟩,
       ⟨some 43, .pick, [.t 41, .t 42, .k (.c (.s (.bool false)))], none⟩,
       ⟨some 44, .mv, [.t 43], none⟩,
       ⟨some 45, .call 11, [.k (.c (.s (.str [105, 110, 97, 99, 116, 105, 118, 101, 58])))], some (44, true)⟩,
       ⟨some 46, .not, [.t 45], some (44, true)⟩,
       ⟨some 47, .pick, [.t 44, .t 46, .k (.c (.s (.bool false)))], none⟩,
       ⟨some 0, .mv, [.t 47], none⟩]) (
     .ret)))))
noncomputable def G_law01_awake : FuncId → Ab.Spec := addS (addS (addS (addS (noS) 10 (plain quoteG)) 13 (plain unqG)) 14 (plain scanG)) 11 (plain plainG)
theorem G_law01_awake_ok : ∀ f, Contract Try.prog f (G_law01_awake f) := (addS_ok (addS_ok (addS_ok (addS_ok (noS_ok _) contract_word_Quote) contract_word_Unquote) contract_word_Scan) contract_word_Plain)
theorem G_law01_awake_10 : G_law01_awake 10 = plain quoteG := by simp [G_law01_awake, addS]
theorem G_law01_awake_13 : G_law01_awake 13 = plain unqG := by simp [G_law01_awake, addS]
theorem G_law01_awake_14 : G_law01_awake 14 = plain scanG := by simp [G_law01_awake, addS]
theorem G_law01_awake_11 : G_law01_awake 11 = plain plainG := by simp [G_law01_awake, addS]
set_option maxHeartbeats 4000000 in
set_option maxRecDepth 100000 in
set_option linter.unusedSimpArgs false in
set_option linter.unusedVariables false in
theorem contract_law01_awake : Contract Try.prog 9 (plain awake01G) := by
  have hb : ∃ c, Try.f9.body = some c ∧ codeOk 48 c = true ∧ cCode Try.prog c = sc_law01_awake := ⟨_, rfl, by kernel_rfl, by kernel_rfl⟩
  obtain ⟨c, hb1, hb2, hb3⟩ := hb
  refine contract_of (n := 0) G_law01_awake_ok hB hD Try.func9 hb1 (by kernel_rfl) hb2 hb3 (rs := [.tmp 0]) (by kernel_rfl) (by decide) ?_ ?_
  · intro args x h
    unfold plain awake01G at h
    split at h <;> simp_all
  · intro args r hr
    unfold plain awake01G at hr
    split at hr
    case h_2 => cases hr
    simp only [Option.map_some, Option.some.injEq] at hr
    subst hr
    unfold sc_law01_awake
    simp +contextual (maxSteps := 4000000) only [↓exT_call G_law01_awake_10, ↓exT_callo G_law01_awake_10, quoteG_call, quoteG_callo, ↓exT_call G_law01_awake_13, ↓exT_callo G_law01_awake_13, unqG_call, unqG_callo, ↓exT_call G_law01_awake_14, ↓exT_callo G_law01_awake_14, scanG_call, scanG_callo, ↓exT_call G_law01_awake_11, ↓exT_callo G_law01_awake_11, plainG_call, plainG_callo, aw1, aw2, aw3, aw4, aw5, go_sem, Nat.reduceAdd, Nat.reduceSub, Nat.reduceMul, Nat.reduceEqDiff, Nat.reduceLeDiff, Nat.reduceLT, Nat.reduceBEq, Int.reduceLE, Int.reduceLT, Int.reduceToNat, Int.reduceNeg, Int.reduceAdd, Int.reduceSub, Int.reduceMul, ↓reduceIte]

def wQuotesG : List V → Option V
  | [.c (.s (.str s))] => some (.c (.s (.bool true)))
  | _ => none
theorem wQuotesG_call {s : Bs} {gt : Bool} {K : V → Prop} : callE wQuotesG [.c (.s (.str s))] gt K = bindV (ifV gt (.c (.s (.bool true)))) K := callE_all rfl
theorem wQuotesG_callo {s : Bs} {m : Nat → Option Ab.Obj} {locs : List Nat} {K : V → (Nat → Option Ab.Obj) → Prop} : callO wQuotesG (some [.c (.s (.str s))]) m locs K = K (.c (.s (.bool true))) (sealW m locs (.c (.s (.bool true)))) := callO_all rfl

theorem plain_eq (s : Bs) : plainC s = (decide ((s.length : Int) ≤ 40) && wordC s) := by
  unfold plainC
  congr 1
  rw [decide_eq_decide]; omega
theorem scan_all (s : Bs) : scanC (quoteT s) 0 = (((quoteT s).length : Int), true) := by
  have h := scan_quote s [] (by simp)
  rw [List.append_nil] at h
  have hne := quote_ne s
  have hl : (quoteT s).length ≠ 0 := fun h => hne (List.length_eq_zero_iff.1 h)
  unfold scanC
  rw [if_pos (by omega)]
  simp [h]
def sc_law01_WordQuotes : SC := .seq (
 .reg [
   ⟨some 2, .mv, [.k (.c (.s (.bool false)))], none⟩]) (
 .seq (
  .seq (
   .reg [
     ⟨some 9, .mv, [.t 0], none⟩,
     ⟨some 10, .len true, [.t 9], none⟩,
     ⟨some 11, .bin .gtr, [.t 10, .k (.c (.s (.int .i64 100)))], none⟩]) (
   .cond (.t 11) (
    .seq (
     .reg [
       ⟨some 12, .call 9, [], none⟩,
       ⟨some 2, .mv, [.t 12], none⟩]) (
     .ret)) (
    .skip))) (
  .seq (
   .reg [
     ⟨some 14, .mv, [.t 0], none⟩,
     ⟨some 15, .call 10, [.t 14], none⟩,
     ⟨some 13, .mv, [.t 15], none⟩,
     ⟨some 16, .ext 0, [.t 13], none⟩,
     ⟨some 17, .ext 1, [.t 13], none⟩,
     ⟨some 3, .mv, [.t 16], none⟩,
     ⟨some 4, .mv, [.t 17], none⟩]) (
   .seq (
    .seq (
     .reg [
       ⟨some 18, .mv, [.t 0], none⟩,
       ⟨some 19, .call 11, [.t 18], none⟩,
       ⟨some 20, .mv, [.t 0], none⟩,
       ⟨some 21, .len true, [.t 20], none⟩,
       ⟨some 22, .bin .leq, [.t 21, .k (.c (.s (.int .i64 40)))], none⟩,
       ⟨some 23, .mv, [.t 22], none⟩,
       ⟨some 24, .mv, [.t 0], some (23, true)⟩,
       ⟨some 25, .call 12, [.t 24], some (23, true)⟩,
       ⟨some 26, .pick, [.t 23, .t 25, .k (.c (.s (.bool false)))], none⟩,
       ⟨some 27, .eqB true, [.t 19, .t 26], none⟩]) (
     .cond (.t 27) (
      .seq (
       .reg [
         ⟨some 2, .mv, [.k (.c (.s (.bool false)))], none⟩]) (
       .ret)) (
      .skip))) (
    .seq (
     .seq (
      .reg [
        ⟨some 28, .mv, [.t 0], none⟩,
        ⟨some 29, .len true, [.t 28], none⟩,
        ⟨some 30, .bin .gtr, [.t 29, .k (.c (.s (.int .i64 40)))], none⟩]) (
      .cond (.t 30) (
       .seq (
        .reg [
          ⟨some 31, .mv, [.t 3], none⟩,
          ⟨some 32, .bin .eql, [.t 31, .k (.c (.s (.str [])))], none⟩,
          ⟨some 33, .mv, [.t 32], none⟩,
          ⟨some 34, .mv, [.t 4], some (33, true)⟩,
          ⟨some 35, .bin .eql, [.t 34, .k (.c (.s (.int .i64 5)))], some (33, true)⟩,
          ⟨some 36, .pick, [.t 33, .t 35, .k (.c (.s (.bool false)))], none⟩,
          ⟨some 37, .mv, [.t 36], none⟩,
          ⟨some 38, .call 9, [], some (37, true)⟩,
          ⟨some 39, .pick, [.t 37, .t 38, .k (.c (.s (.bool false)))], none⟩,
          ⟨some 2, .mv, [.t 39], none⟩]) (
        .ret)) (
       .skip))) (
     .seq (
      .reg [
        ⟨some 41, .mv, [.t 3], none⟩,
        ⟨some 42, .call 13, [.t 41], none⟩,
        ⟨some 40, .mv, [.t 42], none⟩,
        ⟨some 43, .ext 0, [.t 40], none⟩,
        ⟨some 44, .ext 1, [.t 40], none⟩,
        ⟨some 5, .mv, [.t 43], none⟩,
        ⟨some 6, .mv, [.t 44], none⟩]) (
      .seq (
       .reg [
         ⟨some 46, .mv, [.t 3], none⟩,
         ⟨some 47, .call 14, [.t 46, .k (.c (.s (.int .i64 0)))], none⟩,
         ⟨some 45, .mv, [.t 47], none⟩,
         ⟨some 48, .ext 0, [.t 45], none⟩,
         ⟨some 49, .ext 1, [.t 45], none⟩,
         ⟨some 7, .mv, [.t 48], none⟩,
         ⟨some 8, .mv, [.t 49], none⟩]) (
       .seq (
        .reg [
          ⟨some 50, .mv, [.t 3], none⟩,
          ⟨some 51, .mv, [.t 0], none⟩,
          ⟨some 52, .call 15, [.t 51], none⟩,
          ⟨some 53, .bin .eql, [.t 50, .t 52], none⟩,
          ⟨some 54, .mv, [.t 53], none⟩,
          ⟨some 55, .mv, [.t 4], some (54, true)⟩,
          ⟨some 56, .bin .eql, [.t 55, .k (.c (.s (.int .i64 0)))], some (54, true)⟩,
          ⟨some 57, .pick, [.t 54, .t 56, .k (.c (.s (.bool false)))], none⟩,
          ⟨some 58, .mv, [.t 57], none⟩,
          ⟨some 59, .mv, [.t 5], some (58, true)⟩,
          ⟨some 60, .mv, [.t 0], some (58, true)⟩,
          ⟨some 61, .bin .eql, [.t 59, .t 60], some (58, true)⟩,
          ⟨some 62, .pick, [.t 58, .t 61, .k (.c (.s (.bool false)))], none⟩,
          ⟨some 63, .mv, [.t 62], none⟩,
          ⟨some 64, .mv, [.t 6], some (63, true)⟩,
          ⟨some 65, .bin .eql, [.t 64, .k (.c (.s (.int .i64 0)))], some (63, true)⟩,
          ⟨some 66, .pick, [.t 63, .t 65, .k (.c (.s (.bool false)))], none⟩,
          ⟨some 67, .mv, [.t 66], none⟩,
          ⟨some 68, .mv, [.t 7], some (67, true)⟩,
          ⟨some 69, .mv, [.t 3], some (67, true)⟩,
          ⟨some 70, .len true, [.t 69], some (67, true)⟩,
          ⟨some 71, .bin .eql, [.t 68, .t 70], some (67, true)⟩,
          ⟨some 72, .pick, [.t 67, .t 71, .k (.c (.s (.bool false)))], none⟩,
          ⟨some 73, .mv, [.t 72], none⟩,
          ⟨some 74, .mv, [.t 8], some (73, true)⟩,
          ⟨some 75, .pick, [.t 73, .t 74, .k (.c (.s (.bool false)))], none⟩,
          ⟨some 76, .mv, [.t 75], none⟩,
          ⟨some 77, .call 9, [], some (76, true)⟩,
          ⟨some 78, .pick, [.t 76, .t 77, .k (.c (.s (.bool false)))], none⟩,
          ⟨some 2, .mv, [.t 78], none⟩]) (
        .ret))))))))
noncomputable def G_law01_WordQuotes : FuncId → Ab.Spec := addS (addS (addS (addS (addS (addS (addS (noS) 9 (plain awake01G)) 10 (plain quoteG)) 11 (plain plainG)) 12 (plain rBareG)) 13 (plain unqG)) 14 (plain scanG)) 15 (plain rquoteG)
theorem G_law01_WordQuotes_ok : ∀ f, Contract Try.prog f (G_law01_WordQuotes f) := (addS_ok (addS_ok (addS_ok (addS_ok (addS_ok (addS_ok (addS_ok (noS_ok _) contract_law01_awake) contract_word_Quote) contract_word_Plain) contract_ref01_Bare) contract_word_Unquote) contract_word_Scan) contract_ref01_Quote)
theorem G_law01_WordQuotes_9 : G_law01_WordQuotes 9 = plain awake01G := by simp [G_law01_WordQuotes, addS]
theorem G_law01_WordQuotes_10 : G_law01_WordQuotes 10 = plain quoteG := by simp [G_law01_WordQuotes, addS]
theorem G_law01_WordQuotes_11 : G_law01_WordQuotes 11 = plain plainG := by simp [G_law01_WordQuotes, addS]
theorem G_law01_WordQuotes_12 : G_law01_WordQuotes 12 = plain rBareG := by simp [G_law01_WordQuotes, addS]
theorem G_law01_WordQuotes_13 : G_law01_WordQuotes 13 = plain unqG := by simp [G_law01_WordQuotes, addS]
theorem G_law01_WordQuotes_14 : G_law01_WordQuotes 14 = plain scanG := by simp [G_law01_WordQuotes, addS]
theorem G_law01_WordQuotes_15 : G_law01_WordQuotes 15 = plain rquoteG := by simp [G_law01_WordQuotes, addS]
set_option maxHeartbeats 4000000 in
set_option maxRecDepth 100000 in
set_option linter.unusedSimpArgs false in
set_option linter.unusedVariables false in
theorem contract_law01_WordQuotes : Contract Try.prog 3 (plain wQuotesG) := by
  have hb : ∃ c, Try.f3.body = some c ∧ codeOk 79 c = true ∧ cCode Try.prog c = sc_law01_WordQuotes := ⟨_, rfl, by kernel_rfl, by kernel_rfl⟩
  obtain ⟨c, hb1, hb2, hb3⟩ := hb
  refine contract_of (n := 1) G_law01_WordQuotes_ok hB hD Try.func3 hb1 (by kernel_rfl) hb2 hb3 (rs := [.tmp 2]) (by kernel_rfl) (by decide) ?_ ?_
  · intro args x h
    unfold plain wQuotesG at h
    split at h <;> simp_all
  · intro args r hr
    unfold plain wQuotesG at hr
    split at hr
    case h_2 => cases hr
    rename_i s
    simp only [Option.map_some, Option.some.injEq] at hr
    subst hr
    unfold sc_law01_WordQuotes
    by_cases h100 : 100 < (s.length : Int)
    · simp +contextual (maxSteps := 4000000) only [↓exT_call G_law01_WordQuotes_9, ↓exT_callo G_law01_WordQuotes_9, awake01G_call, awake01G_callo, ↓exT_call G_law01_WordQuotes_10, ↓exT_callo G_law01_WordQuotes_10, quoteG_call, quoteG_callo, ↓exT_call G_law01_WordQuotes_11, ↓exT_callo G_law01_WordQuotes_11, plainG_call, plainG_callo, ↓exT_call G_law01_WordQuotes_12, ↓exT_callo G_law01_WordQuotes_12, rBareG_call, rBareG_callo, ↓exT_call G_law01_WordQuotes_13, ↓exT_callo G_law01_WordQuotes_13, unqG_call, unqG_callo, ↓exT_call G_law01_WordQuotes_14, ↓exT_callo G_law01_WordQuotes_14, scanG_call, scanG_callo, ↓exT_call G_law01_WordQuotes_15, ↓exT_callo G_law01_WordQuotes_15, rquoteG_call, rquoteG_callo, h100, go_sem, Nat.reduceAdd, Nat.reduceSub, Nat.reduceMul, Nat.reduceEqDiff, Nat.reduceLeDiff, Nat.reduceLT, Nat.reduceBEq, Int.reduceLE, Int.reduceLT, Int.reduceToNat, Int.reduceNeg, Int.reduceAdd, Int.reduceSub, Int.reduceMul, ↓reduceIte]
    have hql := quote_len s
    by_cases h40 : 40 < s.length
    · have h40' : 40 < (s.length : Int) := by omega
      have h40'' : ¬ (s.length : Int) ≤ 40 := by omega
      simp +contextual (maxSteps := 4000000) only [↓exT_call G_law01_WordQuotes_9, ↓exT_callo G_law01_WordQuotes_9, awake01G_call, awake01G_callo, ↓exT_call G_law01_WordQuotes_10, ↓exT_callo G_law01_WordQuotes_10, quoteG_call, quoteG_callo, ↓exT_call G_law01_WordQuotes_11, ↓exT_callo G_law01_WordQuotes_11, plainG_call, plainG_callo, ↓exT_call G_law01_WordQuotes_12, ↓exT_callo G_law01_WordQuotes_12, rBareG_call, rBareG_callo, ↓exT_call G_law01_WordQuotes_13, ↓exT_callo G_law01_WordQuotes_13, unqG_call, unqG_callo, ↓exT_call G_law01_WordQuotes_14, ↓exT_callo G_law01_WordQuotes_14, scanG_call, scanG_callo, ↓exT_call G_law01_WordQuotes_15, ↓exT_callo G_law01_WordQuotes_15, rquoteG_call, rquoteG_callo, h100, h40, h40', h40'', plain_eq, go_sem, Nat.reduceAdd, Nat.reduceSub, Nat.reduceMul, Nat.reduceEqDiff, Nat.reduceLeDiff, Nat.reduceLT, Nat.reduceBEq, Int.reduceLE, Int.reduceLT, Int.reduceToNat, Int.reduceNeg, Int.reduceAdd, Int.reduceSub, Int.reduceMul, ↓reduceIte]
      all_goals ((repeat' (first | with_reducible apply And.intro | intro)) <;> try omega)
    · have h40' : ¬ 40 < (s.length : Int) := by omega
      have hu := unquote_quote s (by omega)
      simp +contextual (maxSteps := 4000000) only [↓exT_call G_law01_WordQuotes_9, ↓exT_callo G_law01_WordQuotes_9, awake01G_call, awake01G_callo, ↓exT_call G_law01_WordQuotes_10, ↓exT_callo G_law01_WordQuotes_10, quoteG_call, quoteG_callo, ↓exT_call G_law01_WordQuotes_11, ↓exT_callo G_law01_WordQuotes_11, plainG_call, plainG_callo, ↓exT_call G_law01_WordQuotes_12, ↓exT_callo G_law01_WordQuotes_12, rBareG_call, rBareG_callo, ↓exT_call G_law01_WordQuotes_13, ↓exT_callo G_law01_WordQuotes_13, unqG_call, unqG_callo, ↓exT_call G_law01_WordQuotes_14, ↓exT_callo G_law01_WordQuotes_14, scanG_call, scanG_callo, ↓exT_call G_law01_WordQuotes_15, ↓exT_callo G_law01_WordQuotes_15, rquoteG_call, rquoteG_callo, h100, h40, h40', plain_eq, hu, scan_all, go_sem, Nat.reduceAdd, Nat.reduceSub, Nat.reduceMul, Nat.reduceEqDiff, Nat.reduceLeDiff, Nat.reduceLT, Nat.reduceBEq, Int.reduceLE, Int.reduceLT, Int.reduceToNat, Int.reduceNeg, Int.reduceAdd, Int.reduceSub, Int.reduceMul, ↓reduceIte]
      all_goals ((repeat' (first | with_reducible apply And.intro | intro)) <;> try omega)

def wReadsG : List V → Option V
  | [.c (.s (.str t)), .c (.s (.int .i64 a))] => some (.c (.s (.bool true)))
  | _ => none
theorem wReadsG_call {t : Bs} {a : Int} {gt : Bool} {K : V → Prop} : callE wReadsG [.c (.s (.str t)), .c (.s (.int .i64 a))] gt K = bindV (ifV gt (.c (.s (.bool true)))) K := callE_all rfl
theorem wReadsG_callo {t : Bs} {a : Int} {m : Nat → Option Ab.Obj} {locs : List Nat} {K : V → (Nat → Option Ab.Obj) → Prop} : callO wReadsG (some [.c (.s (.str t)), .c (.s (.int .i64 a))]) m locs K = K (.c (.s (.bool true))) (sealW m locs (.c (.s (.bool true)))) := callO_all rfl

theorem scan_false (t : Bs) (a : Int) (h : (scanC t a).2 = false) : (scanC t a).1 = 0 := by
  unfold scanC at h ⊢
  split
  · rename_i hc
    rw [if_pos hc] at h
    cases hs : scanE (t.drop a.toNat) with
    | none => rfl
    | some n => rw [hs] at h; simp at h
  · rfl
def sc_law01_WordReads : SC := .seq (
 .reg [
   ⟨some 4, .mv, [.k (.c (.s (.bool false)))], none⟩]) (
 .seq (
  .seq (
   .reg [
     ⟨some 13, .mv, [.t 0], none⟩,
     ⟨some 14, .len true, [.t 13], none⟩,
     ⟨some 15, .bin .gtr, [.t 14, .k (.c (.s (.int .i64 300)))], none⟩]) (
   .cond (.t 15) (
    .seq (
     .reg [
       ⟨some 16, .call 9, [], none⟩,
       ⟨some 4, .mv, [.t 16], none⟩]) (
     .ret)) (
    .skip))) (
  .seq (
   .reg [
     ⟨some 18, .mv, [.t 0], none⟩,
     ⟨some 19, .call 13, [.t 18], none⟩,
     ⟨some 17, .mv, [.t 19], none⟩,
     ⟨some 20, .ext 0, [.t 17], none⟩,
     ⟨some 21, .ext 1, [.t 17], none⟩,
     ⟨some 5, .mv, [.t 20], none⟩,
     ⟨some 6, .mv, [.t 21], none⟩]) (
   .seq (
    .reg [
      ⟨some 23, .mv, [.t 0], none⟩,
      ⟨some 24, .call 16, [.t 23], none⟩,
      ⟨some 22, .mv, [.t 24], none⟩,
      ⟨some 25, .ext 0, [.t 22], none⟩,
      ⟨some 26, .ext 1, [.t 22], none⟩,
      ⟨some 7, .mv, [.t 25], none⟩,
      ⟨some 8, .mv, [.t 26], none⟩]) (
    .seq (
     .reg [
       ⟨some 28, .mv, [.t 0], none⟩,
       ⟨some 29, .mv, [.t 1], none⟩,
       ⟨some 30, .call 14, [.t 28, .t 29], none⟩,
       ⟨some 27, .mv, [.t 30], none⟩,
       ⟨some 31, .ext 0, [.t 27], none⟩,
       ⟨some 32, .ext 1, [.t 27], none⟩,
       ⟨some 9, .mv, [.t 31], none⟩,
       ⟨some 10, .mv, [.t 32], none⟩]) (
     .seq (
      .reg [
        ⟨some 34, .mv, [.t 0], none⟩,
        ⟨some 35, .mv, [.t 1], none⟩,
        ⟨some 36, .call 17, [.t 34, .t 35], none⟩,
        ⟨some 33, .mv, [.t 36], none⟩,
        ⟨some 37, .ext 0, [.t 33], none⟩,
        ⟨some 38, .ext 1, [.t 33], none⟩,
        ⟨some 11, .mv, [.t 37], none⟩,
        ⟨some 12, .mv, [.t 38], none⟩]) (
      .seq (
       .seq (
        .reg [
          ⟨some 39, .mv, [.t 12], none⟩,
          ⟨some 40, .not, [.t 39], none⟩]) (
        .cond (.t 40) (
         .reg [
           ⟨some 11, .mv, [.k (.c (.s (.int .i64 0)))], none⟩]) (
         .skip))) (
       .seq (
        .reg [
          ⟨some 41, .mv, [.t 5], none⟩,
          ⟨some 42, .mv, [.t 7], none⟩,
          ⟨some 43, .bin .eql, [.t 41, .t 42], none⟩,
          ⟨some 44, .mv, [.t 43], none⟩,
          ⟨some 45, .mv, [.t 6], some (44, true)⟩,
          ⟨some 46, .mv, [.t 8], some (44, true)⟩,
          ⟨some 47, .bin .eql, [.t 45, .t 46], some (44, true)⟩,
          ⟨some 48, .pick, [.t 44, .t 47, .k (.c (.s (.bool false)))], none⟩,
          ⟨some 49, .mv, [.t 48], none⟩,
          ⟨some 50, .mv, [.t 9], some (49, true)⟩,
          ⟨some 51, .mv, [.t 11], some (49, true)⟩,
          ⟨some 52, .bin .eql, [.t 50, .t 51], some (49, true)⟩,
          ⟨some 53, .pick, [.t 49, .t 52, .k (.c (.s (.bool false)))], none⟩,
          ⟨some 54, .mv, [.t 53], none⟩,
          ⟨some 55, .mv, [.t 10], some (54, true)⟩,
          ⟨some 56, .mv, [.t 12], some (54, true)⟩,
          ⟨some 57, .eqB false, [.t 55, .t 56], some (54, true)⟩,
          ⟨some 58, .pick, [.t 54, .t 57, .k (.c (.s (.bool false)))], none⟩,
          ⟨some 59, .mv, [.t 58], none⟩,
          ⟨some 60, .call 9, [], some (59, true)⟩,
          ⟨some 61, .pick, [.t 59, .t 60, .k (.c (.s (.bool false)))], none⟩,
          ⟨some 4, .mv, [.t 61], none⟩]) (
        .ret))))))))
noncomputable def G_law01_WordReads : FuncId → Ab.Spec := addS (addS (addS (addS (addS (noS) 9 (plain awake01G)) 13 (plain unqG)) 16 (plain runqG)) 14 (plain scanG)) 17 (plain rscanG)
theorem G_law01_WordReads_ok : ∀ f, Contract Try.prog f (G_law01_WordReads f) := (addS_ok (addS_ok (addS_ok (addS_ok (addS_ok (noS_ok _) contract_law01_awake) contract_word_Unquote) contract_ref01_Unquote) contract_word_Scan) contract_ref01_Scan)
theorem G_law01_WordReads_9 : G_law01_WordReads 9 = plain awake01G := by simp [G_law01_WordReads, addS]
theorem G_law01_WordReads_13 : G_law01_WordReads 13 = plain unqG := by simp [G_law01_WordReads, addS]
theorem G_law01_WordReads_16 : G_law01_WordReads 16 = plain runqG := by simp [G_law01_WordReads, addS]
theorem G_law01_WordReads_14 : G_law01_WordReads 14 = plain scanG := by simp [G_law01_WordReads, addS]
theorem G_law01_WordReads_17 : G_law01_WordReads 17 = plain rscanG := by simp [G_law01_WordReads, addS]
set_option maxHeartbeats 4000000 in
set_option maxRecDepth 100000 in
set_option linter.unusedSimpArgs false in
set_option linter.unusedVariables false in
theorem contract_law01_WordReads : Contract Try.prog 4 (plain wReadsG) := by
  have hb : ∃ c, Try.f4.body = some c ∧ codeOk 62 c = true ∧ cCode Try.prog c = sc_law01_WordReads := ⟨_, rfl, by kernel_rfl, by kernel_rfl⟩
  obtain ⟨c, hb1, hb2, hb3⟩ := hb
  refine contract_of (n := 2) G_law01_WordReads_ok hB hD Try.func4 hb1 (by kernel_rfl) hb2 hb3 (rs := [.tmp 4]) (by kernel_rfl) (by decide) ?_ ?_
  · intro args x h
    unfold plain wReadsG at h
    split at h <;> simp_all
  · intro args r hr
    unfold plain wReadsG at hr
    split at hr
    case h_2 => cases hr
    rename_i t a
    simp only [Option.map_some, Option.some.injEq] at hr
    subst hr
    unfold sc_law01_WordReads
    simp +contextual (maxSteps := 4000000) only [↓exT_call G_law01_WordReads_9, ↓exT_callo G_law01_WordReads_9, awake01G_call, awake01G_callo, ↓exT_call G_law01_WordReads_13, ↓exT_callo G_law01_WordReads_13, unqG_call, unqG_callo, ↓exT_call G_law01_WordReads_16, ↓exT_callo G_law01_WordReads_16, runqG_call, runqG_callo, ↓exT_call G_law01_WordReads_14, ↓exT_callo G_law01_WordReads_14, scanG_call, scanG_callo, ↓exT_call G_law01_WordReads_17, ↓exT_callo G_law01_WordReads_17, rscanG_call, rscanG_callo, go_sem, Nat.reduceAdd, Nat.reduceSub, Nat.reduceMul, Nat.reduceEqDiff, Nat.reduceLeDiff, Nat.reduceLT, Nat.reduceBEq, Int.reduceLE, Int.reduceLT, Int.reduceToNat, Int.reduceNeg, Int.reduceAdd, Int.reduceSub, Int.reduceMul, ↓reduceIte]
    intro h
    have := scan_false t a
    all_goals ((repeat' (first | with_reducible apply And.intro | intro)) <;> try omega)
    exact this (by assumption)

def wApartG : List V → Option V
  | [.c (.s (.str a)), .c (.s (.str b)), .c (.s (.str t))] => some (.c (.s (.bool true)))
  | _ => none
theorem wApartG_call {a b t : Bs} {gt : Bool} {K : V → Prop} : callE wApartG [.c (.s (.str a)), .c (.s (.str b)), .c (.s (.str t))] gt K = bindV (ifV gt (.c (.s (.bool true)))) K := callE_all rfl
theorem wApartG_callo {a b t : Bs} {m : Nat → Option Ab.Obj} {locs : List Nat} {K : V → (Nat → Option Ab.Obj) → Prop} : callO wApartG (some [.c (.s (.str a)), .c (.s (.str b)), .c (.s (.str t))]) m locs K = K (.c (.s (.bool true))) (sealW m locs (.c (.s (.bool true)))) := callO_all rfl

theorem unq_cases (t : Bs) : ((unquoteT t).2 ≠ 0 ∧ (unquoteT t).1 = []) ∨ ∃ s, unquoteT t = (s, 0) ∧ s.length ≤ 40 ∧ readE t = some s := by
  unfold unquoteT
  cases h : readE t with
  | none => exact .inl ⟨by decide, rfl⟩
  | some s =>
    by_cases h40 : 40 < s.length
    · simp [h40]
    · right; exact ⟨s, by simp [h40], by omega, rfl⟩
def sc_law01_WordApart : SC := .seq (
 .reg [
   ⟨some 6, .mv, [.k (.c (.s (.bool false)))], none⟩]) (
 .seq (
  .seq (
   .reg [
     ⟨some 17, .mv, [.t 0], none⟩,
     ⟨some 18, .len true, [.t 17], none⟩,
     ⟨some 19, .bin .gtr, [.t 18, .k (.c (.s (.int .i64 40)))], none⟩,
     ⟨some 20, .mv, [.t 19], none⟩,
     ⟨some 21, .mv, [.t 1], some (20, false)⟩,
     ⟨some 22, .len true, [.t 21], some (20, false)⟩,
     ⟨some 23, .bin .gtr, [.t 22, .k (.c (.s (.int .i64 40)))], some (20, false)⟩,
     ⟨some 24, .pick, [.t 20, .k (.c (.s (.bool true))), .t 23], none⟩,
     ⟨some 25, .mv, [.t 24], none⟩,
     ⟨some 26, .mv, [.t 2], some (25, false)⟩,
     ⟨some 27, .len true, [.t 26], some (25, false)⟩,
     ⟨some 28, .bin .gtr, [.t 27, .k (.c (.s (.int .i64 300)))], some (25, false)⟩,
     ⟨some 29, .pick, [.t 25, .k (.c (.s (.bool true))), .t 28], none⟩]) (
   .cond (.t 29) (
    .seq (
     .reg [
       ⟨some 30, .call 9, [], none⟩,
       ⟨some 6, .mv, [.t 30], none⟩]) (
     .ret)) (
    .skip))) (
  .seq (
   .reg [
     ⟨some 32, .mv, [.t 0], none⟩,
     ⟨some 33, .call 10, [.t 32], none⟩,
     ⟨some 31, .mv, [.t 33], none⟩,
     ⟨some 34, .ext 0, [.t 31], none⟩,
     ⟨some 35, .ext 1, [.t 31], none⟩,
     ⟨some 7, .mv, [.t 34], none⟩,
     ⟨some 8, .mv, [.t 35], none⟩]) (
   .seq (
    .reg [
      ⟨some 37, .mv, [.t 1], none⟩,
      ⟨some 38, .call 10, [.t 37], none⟩,
      ⟨some 36, .mv, [.t 38], none⟩,
      ⟨some 39, .ext 0, [.t 36], none⟩,
      ⟨some 40, .ext 1, [.t 36], none⟩,
      ⟨some 9, .mv, [.t 39], none⟩,
      ⟨some 10, .mv, [.t 40], none⟩]) (
    .seq (
     .seq (
      .reg [
        ⟨some 41, .mv, [.t 8], none⟩,
        ⟨some 42, .bin .neq, [.t 41, .k (.c (.s (.int .i64 0)))], none⟩,
        ⟨some 43, .mv, [.t 42], none⟩,
        ⟨some 44, .mv, [.t 10], some (43, false)⟩,
        ⟨some 45, .bin .neq, [.t 44, .k (.c (.s (.int .i64 0)))], some (43, false)⟩,
        ⟨some 46, .pick, [.t 43, .k (.c (.s (.bool true))), .t 45], none⟩,
        ⟨some 47, .mv, [.t 46], none⟩,
        ⟨some 48, .mv, [.t 7], some (47, false)⟩,
        ⟨some 49, .mv, [.t 9], some (47, false)⟩,
        ⟨some 50, .bin .eql, [.t 48, .t 49], some (47, false)⟩,
        ⟨some 51, .mv, [.t 0], some (47, false)⟩,
        ⟨some 52, .mv, [.t 1], some (47, false)⟩,
        ⟨some 53, .bin .eql, [.t 51, .t 52], some (47, false)⟩,
        ⟨some 54, .eqB true, [.t 50, .t 53], some (47, false)⟩,
        ⟨some 55, .pick, [.t 47, .k (.c (.s (.bool true))), .t 54], none⟩]) (
      .cond (.t 55) (
       .seq (
        .reg [
          ⟨some 6, .mv, [.k (.c (.s (.bool false)))], none⟩]) (
        .ret)) (
       .skip))) (
     .seq (
      .reg [
        ⟨some 57, .mv, [.t 2], none⟩,
        ⟨some 58, .call 13, [.t 57], none⟩,
        ⟨some 56, .mv, [.t 58], none⟩,
        ⟨some 59, .ext 0, [.t 56], none⟩,
        ⟨some 60, .ext 1, [.t 56], none⟩,
        ⟨some 11, .mv, [.t 59], none⟩,
        ⟨some 12, .mv, [.t 60], none⟩]) (
      .seq (
       .seq (
        .reg [
          ⟨some 61, .mv, [.t 12], none⟩,
          ⟨some 62, .bin .neq, [.t 61, .k (.c (.s (.int .i64 0)))], none⟩]) (
        .cond (.t 62) (
         .seq (
          .reg [
            ⟨some 63, .mv, [.t 11], none⟩,
            ⟨some 64, .bin .eql, [.t 63, .k (.c (.s (.str [])))], none⟩,
            ⟨some 65, .mv, [.t 64], none⟩,
            ⟨some 66, .call 9, [], some (65, true)⟩,
            ⟨some 67, .pick, [.t 65, .t 66, .k (.c (.s (.bool false)))], none⟩,
            ⟨some 6, .mv, [.t 67], none⟩]) (
          .ret)) (
         .skip))) (
       .seq (
        .reg [
          ⟨some 69, .mv, [.t 11], none⟩,
          ⟨some 70, .call 10, [.t 69], none⟩,
          ⟨some 68, .mv, [.t 70], none⟩,
          ⟨some 71, .ext 0, [.t 68], none⟩,
          ⟨some 72, .ext 1, [.t 68], none⟩,
          ⟨some 13, .mv, [.t 71], none⟩,
          ⟨some 14, .mv, [.t 72], none⟩]) (
        .seq (
         .reg [
           ⟨some 74, .mv, [.t 13], none⟩,
           ⟨some 75, .call 13, [.t 74], none⟩,
           ⟨some 73, .mv, [.t 75], none⟩,
           ⟨some 76, .ext 0, [.t 73], none⟩,
           ⟨some 77, .ext 1, [.t 73], none⟩,
           ⟨some 15, .mv, [.t 76], none⟩,
           ⟨some 16, .mv, [.t 77], none⟩]) (
         .seq (
          .reg [
            ⟨some 78, .mv, [.t 14], none⟩,
            ⟨some 79, .bin .eql, [.t 78, .k (.c (.s (.int .i64 0)))], none⟩,
            ⟨some 80, .mv, [.t 79], none⟩,
            ⟨some 81, .mv, [.t 16], some (80, true)⟩,
            ⟨some 82, .bin .eql, [.t 81, .k (.c (.s (.int .i64 0)))], some (80, true)⟩,
            ⟨some 83, .pick, [.t 80, .t 82, .k (.c (.s (.bool false)))], none⟩,
            ⟨some 84, .mv, [.t 83], none⟩,
            ⟨some 85, .mv, [.t 15], some (84, true)⟩,
            ⟨some 86, .mv, [.t 11], some (84, true)⟩,
            ⟨some 87, .bin .eql, [.t 85, .t 86], some (84, true)⟩,
            ⟨some 88, .pick, [.t 84, .t 87, .k (.c (.s (.bool false)))], none⟩,
            ⟨some 89, .mv, [.t 88], none⟩,
            ⟨some 90, .mv, [.t 13], some (89, true)⟩,
            ⟨some 91, .len true, [.t 90], some (89, true)⟩,
            ⟨some 92, .mv, [.t 2], some (89, true)⟩,
            ⟨some 93, .len true, [.t 92], some (89, true)⟩,
            ⟨some 94, .bin .add, [.t 93, .k (.c (.s (.int .i64 2)))], some (89, true)⟩,
            ⟨some 95, .bin .leq, [.t 91, .t 94], some (89, true)⟩,
            ⟨some 96, .pick, [.t 89, .t 95, .k (.c (.s (.bool false)))], none⟩,
            ⟨some 97, .mv, [.t 96], none⟩,
            ⟨some 98, .call 9, [], some (97, true)⟩,
            ⟨some 99, .pick, [.t 97, .t 98, .k (.c (.s (.bool false)))], none⟩,
            ⟨some 6, .mv, [.t 99], none⟩]) (
          .ret))))))))))
noncomputable def G_law01_WordApart : FuncId → Ab.Spec := addS (addS (addS (noS) 9 (plain awake01G)) 10 (plain quoteG)) 13 (plain unqG)
theorem G_law01_WordApart_ok : ∀ f, Contract Try.prog f (G_law01_WordApart f) := (addS_ok (addS_ok (addS_ok (noS_ok _) contract_law01_awake) contract_word_Quote) contract_word_Unquote)
theorem G_law01_WordApart_9 : G_law01_WordApart 9 = plain awake01G := by simp [G_law01_WordApart, addS]
theorem G_law01_WordApart_10 : G_law01_WordApart 10 = plain quoteG := by simp [G_law01_WordApart, addS]
theorem G_law01_WordApart_13 : G_law01_WordApart 13 = plain unqG := by simp [G_law01_WordApart, addS]
set_option maxHeartbeats 4000000 in
set_option maxRecDepth 100000 in
set_option linter.unusedSimpArgs false in
set_option linter.unusedVariables false in
theorem contract_law01_WordApart : Contract Try.prog 5 (plain wApartG) := by
  have hb : ∃ c, Try.f5.body = some c ∧ codeOk 100 c = true ∧ cCode Try.prog c = sc_law01_WordApart := ⟨_, rfl, by kernel_rfl, by kernel_rfl⟩
  obtain ⟨c, hb1, hb2, hb3⟩ := hb
  refine contract_of (n := 3) G_law01_WordApart_ok hB hD Try.func5 hb1 (by kernel_rfl) hb2 hb3 (rs := [.tmp 6]) (by kernel_rfl) (by decide) ?_ ?_
  · intro args x h
    unfold plain wApartG at h
    split at h <;> simp_all
  · intro args r hr
    unfold plain wApartG at hr
    split at hr
    case h_2 => cases hr
    rename_i a b t
    simp only [Option.map_some, Option.some.injEq] at hr
    subst hr
    unfold sc_law01_WordApart
    by_cases hl : (a.length ≤ 40 ∧ b.length ≤ 40) ∧ t.length ≤ 300
    case neg =>
      have e : (decide (40 < (a.length : Int)) || decide (40 < (b.length : Int)) || decide (300 < (t.length : Int))) = true := by
        simp only [Bool.or_eq_true, decide_eq_true_eq]; omega
      simp +contextual (maxSteps := 4000000) only [↓exT_call G_law01_WordApart_9, ↓exT_callo G_law01_WordApart_9, awake01G_call, awake01G_callo, ↓exT_call G_law01_WordApart_10, ↓exT_callo G_law01_WordApart_10, quoteG_call, quoteG_callo, ↓exT_call G_law01_WordApart_13, ↓exT_callo G_law01_WordApart_13, unqG_call, unqG_callo, e, go_sem, Nat.reduceAdd, Nat.reduceSub, Nat.reduceMul, Nat.reduceEqDiff, Nat.reduceLeDiff, Nat.reduceLT, Nat.reduceBEq, Int.reduceLE, Int.reduceLT, Int.reduceToNat, Int.reduceNeg, Int.reduceAdd, Int.reduceSub, Int.reduceMul, ↓reduceIte]
    obtain ⟨⟨hla, hlb⟩, hlt⟩ := hl
    have ha1 : ¬ 40 < (a.length : Int) := by omega
    have hb1 : ¬ 40 < (b.length : Int) := by omega
    have ht1 : ¬ 300 < (t.length : Int) := by omega
    have ha2 : ¬ 40 < a.length := by omega
    have hb2 : ¬ 40 < b.length := by omega
    have hq : decide (quoteT a = quoteT b) = decide (a = b) := by
      rw [decide_eq_decide]; exact ⟨quote_inj, fun h => by rw [h]⟩
    rcases unq_cases t with ⟨h1, h2⟩ | ⟨s, h1, h2, h3⟩
    · simp +contextual (maxSteps := 4000000) only [↓exT_call G_law01_WordApart_9, ↓exT_callo G_law01_WordApart_9, awake01G_call, awake01G_callo, ↓exT_call G_law01_WordApart_10, ↓exT_callo G_law01_WordApart_10, quoteG_call, quoteG_callo, ↓exT_call G_law01_WordApart_13, ↓exT_callo G_law01_WordApart_13, unqG_call, unqG_callo, ha1, hb1, ht1, ha2, hb2, hq, h1, h2, go_sem, Nat.reduceAdd, Nat.reduceSub, Nat.reduceMul, Nat.reduceEqDiff, Nat.reduceLeDiff, Nat.reduceLT, Nat.reduceBEq, Int.reduceLE, Int.reduceLT, Int.reduceToNat, Int.reduceNeg, Int.reduceAdd, Int.reduceSub, Int.reduceMul, ↓reduceIte]
      all_goals ((repeat' (first | with_reducible apply And.intro | intro)) <;> try omega)
    · have hs : ¬ 40 < s.length := by omega
      have hu := unquote_quote s h2
      have hql := quote_len s
      have hqr := quote_read_len h3
      simp +contextual (maxSteps := 4000000) only [↓exT_call G_law01_WordApart_9, ↓exT_callo G_law01_WordApart_9, awake01G_call, awake01G_callo, ↓exT_call G_law01_WordApart_10, ↓exT_callo G_law01_WordApart_10, quoteG_call, quoteG_callo, ↓exT_call G_law01_WordApart_13, ↓exT_callo G_law01_WordApart_13, unqG_call, unqG_callo, ha1, hb1, ht1, ha2, hb2, hq, h1, hs, hu, go_sem, Nat.reduceAdd, Nat.reduceSub, Nat.reduceMul, Nat.reduceEqDiff, Nat.reduceLeDiff, Nat.reduceLT, Nat.reduceBEq, Int.reduceLE, Int.reduceLT, Int.reduceToNat, Int.reduceNeg, Int.reduceAdd, Int.reduceSub, Int.reduceMul, ↓reduceIte]
      all_goals ((repeat' (first | with_reducible apply And.intro | intro)) <;> try omega)

def wLongG : List V → Option V
  | [.c (.s (.str s))] => some (.c (.s (.bool true)))
  | _ => none
theorem wLongG_call {s : Bs} {gt : Bool} {K : V → Prop} : callE wLongG [.c (.s (.str s))] gt K = bindV (ifV gt (.c (.s (.bool true)))) K := callE_all rfl
theorem wLongG_callo {s : Bs} {m : Nat → Option Ab.Obj} {locs : List Nat} {K : V → (Nat → Option Ab.Obj) → Prop} : callO wLongG (some [.c (.s (.str s))]) m locs K = K (.c (.s (.bool true))) (sealW m locs (.c (.s (.bool true)))) := callO_all rfl

def sc_law01_WordLong : SC := .seq (
 .reg [
   ⟨some 2, .mv, [.k (.c (.s (.bool false)))], none⟩]) (
 .seq (
  .seq (
   .reg [
     ⟨some 5, .mv, [.t 0], none⟩,
     ⟨some 6, .len true, [.t 5], none⟩,
     ⟨some 7, .bin .gtr, [.t 6, .k (.c (.s (.int .i64 40)))], none⟩]) (
   .cond (.t 7) (
    .seq (
     .reg [
       ⟨some 8, .call 9, [], none⟩,
       ⟨some 2, .mv, [.t 8], none⟩]) (
     .ret)) (
    .skip))) (
  .seq (
   .reg [
     ⟨some 10, .mv, [.t 0], none⟩,
     ⟨some 11, .call 10, [.t 10], none⟩,
     ⟨some 9, .mv, [.t 11], none⟩,
     ⟨some 12, .ext 0, [.t 9], none⟩,
     ⟨some 13, .ext 1, [.t 9], none⟩,
     ⟨some 3, .mv, [.t 12], none⟩,
     ⟨some 4, .mv, [.t 13], none⟩]) (
   .seq (
    .reg [
      ⟨some 14, .mv, [.t 4], none⟩,
      ⟨some 15, .bin .eql, [.t 14, .k (.c (.s (.int .i64 0)))], none⟩,
      ⟨some 16, .mv, [.t 15], none⟩,
      ⟨some 17, .mv, [.t 3], some (16, true)⟩,
      ⟨some 18, .len true, [.t 17], some (16, true)⟩,
      ⟨some 19, .mv, [.t 0], some (16, true)⟩,
      ⟨some 20, .len true, [.t 19], some (16, true)⟩,
      ⟨some 21, .bin .geq, [.t 18, .t 20], some (16, true)⟩,
      ⟨some 22, .pick, [.t 16, .t 21, .k (.c (.s (.bool false)))], none⟩,
      ⟨some 23, .mv, [.t 22], none⟩,
      ⟨some 24, .mv, [.t 3], some (23, true)⟩,
      ⟨some 25, .len true, [.t 24], some (23, true)⟩,
      ⟨some 26, .mv, [.t 0], some (23, true)⟩,
      ⟨some 27, .len true, [.t 26], some (23, true)⟩,
      ⟨some 28, .bin .mul, [.k (.c (.s (.int .i64 4))), .t 27], some (23, true)⟩,
      ⟨some 29, .bin .add, [.t 28, .k (.c (.s (.int .i64 2)))], some (23, true)⟩,
      ⟨some 30, .bin .leq, [.t 25, .t 29], some (23, true)⟩,
      ⟨some 31, .pick, [.t 23, .t 30, .k (.c (.s (.bool false)))], none⟩,
      ⟨some 32, .mv, [.t 31], none⟩,
      ⟨some 33, .call 9, [], some (32, true)⟩,
      ⟨some 34, .pick, [.t 32, .t 33, .k (.c (.s (.bool false)))], none⟩,
      ⟨some 2, .mv, [.t 34], none⟩]) (
    .ret))))
noncomputable def G_law01_WordLong : FuncId → Ab.Spec := addS (addS (noS) 9 (plain awake01G)) 10 (plain quoteG)
theorem G_law01_WordLong_ok : ∀ f, Contract Try.prog f (G_law01_WordLong f) := (addS_ok (addS_ok (noS_ok _) contract_law01_awake) contract_word_Quote)
theorem G_law01_WordLong_9 : G_law01_WordLong 9 = plain awake01G := by simp [G_law01_WordLong, addS]
theorem G_law01_WordLong_10 : G_law01_WordLong 10 = plain quoteG := by simp [G_law01_WordLong, addS]
set_option maxHeartbeats 4000000 in
set_option maxRecDepth 100000 in
set_option linter.unusedSimpArgs false in
set_option linter.unusedVariables false in
theorem contract_law01_WordLong : Contract Try.prog 7 (plain wLongG) := by
  have hb : ∃ c, Try.f7.body = some c ∧ codeOk 35 c = true ∧ cCode Try.prog c = sc_law01_WordLong := ⟨_, rfl, by kernel_rfl, by kernel_rfl⟩
  obtain ⟨c, hb1, hb2, hb3⟩ := hb
  refine contract_of (n := 1) G_law01_WordLong_ok hB hD Try.func7 hb1 (by kernel_rfl) hb2 hb3 (rs := [.tmp 2]) (by kernel_rfl) (by decide) ?_ ?_
  · intro args x h
    unfold plain wLongG at h
    split at h <;> simp_all
  · intro args r hr
    unfold plain wLongG at hr
    split at hr
    case h_2 => cases hr
    rename_i s
    simp only [Option.map_some, Option.some.injEq] at hr
    subst hr
    unfold sc_law01_WordLong
    by_cases h40 : 40 < s.length
    · have h40' : 40 < (s.length : Int) := by omega
      simp +contextual (maxSteps := 4000000) only [↓exT_call G_law01_WordLong_9, ↓exT_callo G_law01_WordLong_9, awake01G_call, awake01G_callo, ↓exT_call G_law01_WordLong_10, ↓exT_callo G_law01_WordLong_10, quoteG_call, quoteG_callo, h40', go_sem, Nat.reduceAdd, Nat.reduceSub, Nat.reduceMul, Nat.reduceEqDiff, Nat.reduceLeDiff, Nat.reduceLT, Nat.reduceBEq, Int.reduceLE, Int.reduceLT, Int.reduceToNat, Int.reduceNeg, Int.reduceAdd, Int.reduceSub, Int.reduceMul, ↓reduceIte]
    · have h40' : ¬ 40 < (s.length : Int) := by omega
      have hql := quote_len s
      simp +contextual (maxSteps := 4000000) only [↓exT_call G_law01_WordLong_9, ↓exT_callo G_law01_WordLong_9, awake01G_call, awake01G_callo, ↓exT_call G_law01_WordLong_10, ↓exT_callo G_law01_WordLong_10, quoteG_call, quoteG_callo, h40, h40', go_sem, Nat.reduceAdd, Nat.reduceSub, Nat.reduceMul, Nat.reduceEqDiff, Nat.reduceLeDiff, Nat.reduceLT, Nat.reduceBEq, Int.reduceLE, Int.reduceLT, Int.reduceToNat, Int.reduceNeg, Int.reduceAdd, Int.reduceSub, Int.reduceMul, ↓reduceIte]
      all_goals ((repeat' (first | with_reducible apply And.intro | intro)) <;> try omega)

def wBytesG : List V → Option V
  | [.c (.s (.str s))] => some (.c (.s (.bool true)))
  | _ => none
theorem wBytesG_call {s : Bs} {gt : Bool} {K : V → Prop} : callE wBytesG [.c (.s (.str s))] gt K = bindV (ifV gt (.c (.s (.bool true)))) K := callE_all rfl
theorem wBytesG_callo {s : Bs} {m : Nat → Option Ab.Obj} {locs : List Nat} {K : V → (Nat → Option Ab.Obj) → Prop} : callO wBytesG (some [.c (.s (.str s))]) m locs K = K (.c (.s (.bool true))) (sealW m locs (.c (.s (.bool true)))) := callO_all rfl

theorem calm_get : ∀ (l : Bs) (p : UInt8), calm p l = true → ∀ i, i < l.length → l.getD i 0 = 34 → (if i = 0 then p else l.getD (i - 1) 0) = 92
  | [], _, _, i, h, _ => by simp at h
  | c :: l, p, h, i, hi, h34 => by
    simp only [calm, Bool.and_eq_true, Bool.or_eq_true, bne_iff_ne, beq_iff_eq] at h
    cases i with
    | zero =>
      simp only [List.getD_cons_zero] at h34
      simp only [if_true]
      exact h.1.resolve_left (fun x => x h34)
    | succ i =>
      have := calm_get l c h.2 i (by simpa using hi) (by simpa using h34)
      simp only [Nat.add_one_ne_zero, if_false, Nat.add_sub_cancel]
      cases i with
      | zero => simpa using this
      | succ i => simpa using this
theorem quote_at (s : Bs) (i : Nat) (hi : i < (quoteT s).length) : ¬ (quoteT s).getD i 0 < 32 ∧ ¬ 126 < (quoteT s).getD i 0 ∧ ((quoteT s).getD i 0 = 34 → 0 < i → i < (quoteT s).length - 1 → (quoteT s).getD (i - 1) 0 = 92) := by
  have hs := (List.all_eq_true.1 (quote_seen s)) ((quoteT s).getD i 0) (by rw [List.getD_eq_getElem?_getD, List.getElem?_eq_getElem hi]; exact List.getElem_mem hi)
  simp only [seenB, Bool.and_eq_true, decide_eq_true_eq] at hs
  refine ⟨UInt8.not_lt.2 hs.1, UInt8.not_lt.2 hs.2, fun h34 h0 hl => ?_⟩
  unfold quoteT at *
  by_cases hw : wordC s = true
  · rw [if_pos hw] at h34 hi
    have := bare_facts _ ((List.all_eq_true.1 (word_bare hw).1) (s.getD i 0) (by rw [List.getD_eq_getElem?_getD, List.getElem?_eq_getElem hi]; exact List.getElem_mem hi))
    exact absurd h34 this.1
  · rw [if_neg hw] at h34 hl hi ⊢
    have hc : calm 92 (34 :: escs s) = true := by
      have := calm_escs s 34 [] (fun _ => rfl)
      rw [List.append_nil] at this
      simp [calm, this]
    simp only [List.length_cons, List.length_append, List.length_nil] at hl
    have hi2 : i < (34 :: escs s).length := by simp; omega
    have e : ∀ j, j < (34 :: escs s).length → (34 :: (escs s ++ [34])).getD j 0 = (34 :: escs s).getD j 0 := fun j hj => by
      rw [← List.cons_append, List.getD_eq_getElem?_getD, List.getD_eq_getElem?_getD, List.getElem?_append_left hj]
    rw [e i hi2] at h34
    rw [e (i - 1) (by omega)]
    have := calm_get _ _ hc i hi2 h34
    rw [if_neg (by omega)] at this
    exact this
theorem quote_first (s : Bs) (h : s.length ≤ 40) : (decide ((quoteT s).getD 0 0 = 34) == !plainC s) = true := by
  have h1 := quote_head s
  have hne := quote_ne s
  have hp : plainC s = wordC s := by unfold plainC; simp [h]
  rw [hp]
  cases hq : quoteT s with
  | nil => exact absurd hq hne
  | cons c r =>
    rw [hq] at h1
    simp only [List.head?_cons, Option.some.injEq] at h1
    simp only [List.getD_cons_zero]
    cases hw : wordC s with
    | true => rw [hw] at h1; simp at h1; simp [h1]
    | false => rw [hw] at h1; simp at h1; simp [h1]
def sc_law01_WordBytes : SC := .seq (
 .reg [
   ⟨some 2, .mv, [.k (.c (.s (.bool false)))], none⟩]) (
 .seq (
  .seq (
   .reg [
     ⟨some 6, .mv, [.t 0], none⟩,
     ⟨some 7, .len true, [.t 6], none⟩,
     ⟨some 8, .bin .gtr, [.t 7, .k (.c (.s (.int .i64 40)))], none⟩]) (
   .cond (.t 8) (
    .seq (
     .reg [
       ⟨some 9, .call 9, [], none⟩,
       ⟨some 2, .mv, [.t 9], none⟩]) (
     .ret)) (
    .skip))) (
  .seq (
   .reg [
     ⟨some 11, .mv, [.t 0], none⟩,
     ⟨some 12, .call 10, [.t 11], none⟩,
     ⟨some 10, .mv, [.t 12], none⟩,
     ⟨some 13, .ext 0, [.t 10], none⟩,
     ⟨some 14, .ext 1, [.t 10], none⟩,
     ⟨some 3, .mv, [.t 13], none⟩,
     ⟨some 4, .mv, [.t 14], none⟩]) (
   .seq (
    .seq (
     .reg [
       ⟨some 15, .mv, [.t 4], none⟩,
       ⟨some 16, .bin .neq, [.t 15, .k (.c (.s (.int .i64 0)))], none⟩,
       ⟨some 17, .mv, [.t 16], none⟩,
       ⟨some 18, .mv, [.t 3], some (17, false)⟩,
       ⟨some 19, .bin .eql, [.t 18, .k (.c (.s (.str [])))], some (17, false)⟩,
       ⟨some 20, .pick, [.t 17, .k (.c (.s (.bool true))), .t 19], none⟩]) (
     .cond (.t 20) (
      .seq (
       .reg [
         ⟨some 2, .mv, [.k (.c (.s (.bool false)))], none⟩]) (
       .ret)) (
      .skip))) (
    .seq (
     .seq (
      .reg [
        ⟨some 21, .mv, [.t 3], none⟩,
        ⟨some 22, .len true, [.t 21], none⟩,
        ⟨some 23, .mv, [.k (.c (.s (.int .i64 0)))], none⟩]) (
      .block 0 (
       .loop (
        .seq (
         .reg [
           ⟨some 24, .bin .lss, [.t 23, .t 22], none⟩]) (
         .seq (
          .cond (.t 24) (
           .skip) (
           .exit 0)) (
          .seq (
           .block 1 (
            .seq (
             .reg [
               ⟨some 25, .mv, [.t 23], none⟩,
               ⟨some 5, .mv, [.t 25], none⟩]) (
             .seq (
              .reg [
                ⟨some 26, .mv, [.t 3], none⟩,
                ⟨some 27, .mv, [.t 5], none⟩,
                ⟨some 28, .idx, [.t 26, .t 27], none⟩,
                ⟨some 29, .bin .lss, [.t 28, .k (.c (.s (.int .u8 32)))], none⟩,
                ⟨some 30, .mv, [.t 29], none⟩,
                ⟨some 31, .mv, [.t 3], some (30, false)⟩,
                ⟨some 32, .mv, [.t 5], some (30, false)⟩,
                ⟨some 33, .idx, [.t 31, .t 32], some (30, false)⟩,
                ⟨some 34, .bin .gtr, [.t 33, .k (.c (.s (.int .u8 126)))], some (30, false)⟩,
                ⟨some 35, .pick, [.t 30, .k (.c (.s (.bool true))), .t 34], none⟩,
                ⟨some 36, .mv, [.t 35], none⟩,
                ⟨some 37, .mv, [.t 3], some (36, false)⟩,
                ⟨some 38, .mv, [.t 5], some (36, false)⟩,
                ⟨some 39, .idx, [.t 37, .t 38], some (36, false)⟩,
                ⟨some 40, .bin .eql, [.t 39, .k (.c (.s (.int .u8 34)))], some (36, false)⟩,
                ⟨some 41, .mv, [.t 40], some (36, false)⟩,
                ⟨some 42, .mv, [.t 5], some (41, true)⟩,
                ⟨some 43, .bin .gtr, [.t 42, .k (.c (.s (.int .i64 0)))], some (41, true)⟩,
                ⟨some 44, .pick, [.t 41, .t 43, .k (.c (.s (.bool false)))], some (36, false)⟩,
                ⟨some 45, .mv, [.t 44], some (36, false)⟩,
                ⟨some 46, .mv, [.t 5], some (45, true)⟩,
                ⟨some 47, .mv, [.t 3], some (45, true)⟩,
                ⟨some 48, .len true, [.t 47], some (45, true)⟩,
                ⟨some 49, .bin .sub, [.t 48, .k (.c (.s (.int .i64 1)))], some (45, true)⟩,
                ⟨some 50, .bin .lss, [.t 46, .t 49], some (45, true)⟩,
                ⟨some 51, .pick, [.t 45, .t 50, .k (.c (.s (.bool false)))], some (36, false)⟩,
                ⟨some 52, .mv, [.t 51], some (36, false)⟩,
                ⟨some 53, .mv, [.t 3], some (52, true)⟩,
                ⟨some 54, .mv, [.t 5], some (52, true)⟩,
                ⟨some 55, .bin .sub, [.t 54, .k (.c (.s (.int .i64 1)))], some (52, true)⟩,
                ⟨some 56, .idx, [.t 53, .t 55], some (52, true)⟩,
                ⟨some 57, .bin .neq, [.t 56, .k (.c (.s (.int .u8 92)))], some (52, true)⟩,
                ⟨some 58, .pick, [.t 52, .t 57, .k (.c (.s (.bool false)))], some (36, false)⟩,
                ⟨some 59, .pick, [.t 36, .k (.c (.s (.bool true))), .t 58], none⟩]) (
              .cond (.t 59) (
               .seq (
                .reg [
                  ⟨some 2, .mv, [.k (.c (.s (.bool false)))], none⟩]) (
                .ret)) (
               .skip))))) (
           .reg [
             ⟨some 60, .bin .add, [.t 23, .k (.c (.s (.int .i64 1)))], none⟩,
             ⟨some 23, .mv, [.t 60], none⟩]))))))) (
     .seq (
      .regD [
        ⟨some 61, .mv, [.t 3], none⟩,
        ⟨some 62, .idx, [.t 61, .k (.c (.s (.int .i64 0)))], none⟩,
        ⟨some 63, .bin .eql, [.t 62, .k (.c (.s (.int .u8 34)))], none⟩,
        ⟨some 64, .mv, [.t 0], none⟩,
        ⟨some 65, .call 11, [.t 64], none⟩,
        ⟨some 66, .not, [.t 65], none⟩,
        ⟨some 67, .eqB false, [.t 63, .t 66], none⟩,
        ⟨some 68, .mv, [.t 67], none⟩,
        ⟨some 69, .call 9, [], some (68, true)⟩,
        ⟨some 70, .pick, [.t 68, .t 69, .k (.c (.s (.bool false)))], none⟩,
        ⟨some 2, .mv, [.t 70], none⟩] []) (
      .ret))))))
noncomputable def G_law01_WordBytes : FuncId → Ab.Spec := addS (addS (addS (noS) 9 (plain awake01G)) 10 (plain quoteG)) 11 (plain plainG)
theorem G_law01_WordBytes_ok : ∀ f, Contract Try.prog f (G_law01_WordBytes f) := (addS_ok (addS_ok (addS_ok (noS_ok _) contract_law01_awake) contract_word_Quote) contract_word_Plain)
theorem G_law01_WordBytes_9 : G_law01_WordBytes 9 = plain awake01G := by simp [G_law01_WordBytes, addS]
theorem G_law01_WordBytes_10 : G_law01_WordBytes 10 = plain quoteG := by simp [G_law01_WordBytes, addS]
theorem G_law01_WordBytes_11 : G_law01_WordBytes 11 = plain plainG := by simp [G_law01_WordBytes, addS]
set_option maxHeartbeats 4000000 in
set_option maxRecDepth 100000 in
set_option linter.unusedSimpArgs false in
set_option linter.unusedVariables false in
theorem contract_law01_WordBytes : Contract Try.prog 6 (plain wBytesG) := by
  have hb : ∃ c, Try.f6.body = some c ∧ codeOk 71 c = true ∧ cCode Try.prog c = sc_law01_WordBytes := ⟨_, rfl, by kernel_rfl, by kernel_rfl⟩
  obtain ⟨c, hb1, hb2, hb3⟩ := hb
  refine contract_of (n := 1) G_law01_WordBytes_ok hB hD Try.func6 hb1 (by kernel_rfl) hb2 hb3 (rs := [.tmp 2]) (by kernel_rfl) (by decide) ?_ ?_
  · intro args x h
    unfold plain wBytesG at h
    split at h <;> simp_all
  · intro args r hr
    unfold plain wBytesG at hr
    split at hr
    case h_2 => cases hr
    rename_i s
    simp only [Option.map_some, Option.some.injEq] at hr
    subst hr
    unfold sc_law01_WordBytes
    by_cases h40 : 40 < s.length
    · have h40' : 40 < (s.length : Int) := by omega
      simp +contextual (maxSteps := 4000000) only [↓exT_call G_law01_WordBytes_9, ↓exT_callo G_law01_WordBytes_9, awake01G_call, awake01G_callo, ↓exT_call G_law01_WordBytes_10, ↓exT_callo G_law01_WordBytes_10, quoteG_call, quoteG_callo, ↓exT_call G_law01_WordBytes_11, ↓exT_callo G_law01_WordBytes_11, plainG_call, plainG_callo, h40', go_sem, Nat.reduceAdd, Nat.reduceSub, Nat.reduceMul, Nat.reduceEqDiff, Nat.reduceLeDiff, Nat.reduceLT, Nat.reduceBEq, Int.reduceLE, Int.reduceLT, Int.reduceToNat, Int.reduceNeg, Int.reduceAdd, Int.reduceSub, Int.reduceMul, ↓reduceIte]
    have h40' : ¬ 40 < (s.length : Int) := by omega
    have hql := quote_len s
    have hne := quote_ne s
    have hqf := quote_first s (by omega)
    simp +contextual (maxSteps := 4000000) only [↓exT_call G_law01_WordBytes_9, ↓exT_callo G_law01_WordBytes_9, awake01G_call, awake01G_callo, ↓exT_call G_law01_WordBytes_10, ↓exT_callo G_law01_WordBytes_10, quoteG_call, quoteG_callo, ↓exT_call G_law01_WordBytes_11, ↓exT_callo G_law01_WordBytes_11, plainG_call, plainG_callo, h40, h40', hne, go_sem, Nat.reduceAdd, Nat.reduceSub, Nat.reduceMul, Nat.reduceEqDiff, Nat.reduceLeDiff, Nat.reduceLT, Nat.reduceBEq, Int.reduceLE, Int.reduceLT, Int.reduceToNat, Int.reduceNeg, Int.reduceAdd, Int.reduceSub, Int.reduceMul, ↓reduceIte]
    all_goals ((repeat' (first | with_reducible apply And.intro | intro)) <;> try omega)
    refine awp_loopM (α := Nat) (fun i => [(0, .c (.s (.str s))), (3, .c (.s (.str (quoteT s)))), (22, .c (.s (.int .i64 (quoteT s).length))), (23, .c (.s (.int .i64 i)))]) (fun _ => []) (fun i => (quoteT s).length - i) 0 (fun i => i ≤ (quoteT s).length) (Nat.zero_le _) (Weak.meets ?_) ?_
    · simp +contextual (maxSteps := 4000000) only [↓exT_call G_law01_WordBytes_9, ↓exT_callo G_law01_WordBytes_9, awake01G_call, awake01G_callo, ↓exT_call G_law01_WordBytes_10, ↓exT_callo G_law01_WordBytes_10, quoteG_call, quoteG_callo, ↓exT_call G_law01_WordBytes_11, ↓exT_callo G_law01_WordBytes_11, plainG_call, plainG_callo, go_sem, Nat.reduceAdd, Nat.reduceSub, Nat.reduceMul, Nat.reduceEqDiff, Nat.reduceLeDiff, Nat.reduceLT, Nat.reduceBEq, Int.reduceLE, Int.reduceLT, Int.reduceToNat, Int.reduceNeg, Int.reduceAdd, Int.reduceSub, Int.reduceMul, ↓reduceIte]
      simp
    intro x hx
    by_cases hxl : x < (quoteT s).length
    · have hxi : (x : Int) < ((quoteT s).length : Int) := by omega
      obtain ⟨q1, q2, q3⟩ := quote_at s x hxl
      have ex : ∀ h : 0 < (x : Int), ((x : Int) - 1).toNat = x - 1 := fun _ => by omega
      simp +contextual (maxSteps := 4000000) only [↓exT_call G_law01_WordBytes_9, ↓exT_callo G_law01_WordBytes_9, awake01G_call, awake01G_callo, ↓exT_call G_law01_WordBytes_10, ↓exT_callo G_law01_WordBytes_10, quoteG_call, quoteG_callo, ↓exT_call G_law01_WordBytes_11, ↓exT_callo G_law01_WordBytes_11, plainG_call, plainG_callo, hxi, q1, q2, go_sem, Nat.reduceAdd, Nat.reduceSub, Nat.reduceMul, Nat.reduceEqDiff, Nat.reduceLeDiff, Nat.reduceLT, Nat.reduceBEq, Int.reduceLE, Int.reduceLT, Int.reduceToNat, Int.reduceNeg, Int.reduceAdd, Int.reduceSub, Int.reduceMul, ↓reduceIte]
      all_goals ((repeat' (first | with_reducible apply And.intro | intro)) <;> try omega)
      · rename_i h1
        have := q3 h1.1.1.1 (by omega) (by omega)
        rw [ex h1.1.1.2] at h1
        exact h1.2 this
      · exact ⟨x + 1, by omega, by omega, by omega⟩
    · have hxi : ¬ (x : Int) < ((quoteT s).length : Int) := by omega
      simp +contextual (maxSteps := 4000000) only [↓exT_call G_law01_WordBytes_9, ↓exT_callo G_law01_WordBytes_9, awake01G_call, awake01G_callo, ↓exT_call G_law01_WordBytes_10, ↓exT_callo G_law01_WordBytes_10, quoteG_call, quoteG_callo, ↓exT_call G_law01_WordBytes_11, ↓exT_callo G_law01_WordBytes_11, plainG_call, plainG_callo, hxi, hqf, go_sem, Nat.reduceAdd, Nat.reduceSub, Nat.reduceMul, Nat.reduceEqDiff, Nat.reduceLeDiff, Nat.reduceLT, Nat.reduceBEq, Int.reduceLE, Int.reduceLT, Int.reduceToNat, Int.reduceNeg, Int.reduceAdd, Int.reduceSub, Int.reduceMul, ↓reduceIte]
      have : (quoteT s).length ≠ 0 := fun h => hne (List.length_eq_zero_iff.1 h)
      all_goals ((repeat' (first | with_reducible apply And.intro | intro)) <;> try omega)

def wRowG_enc : (List Bs) × (Bool) → List V := fun ⟨l, f⟩ => [.c (.s (.list 1 (encs strE l) f))]
theorem wRowG_inj : ∀ x y, wRowG_enc x = wRowG_enc y → x = y := by
  rintro ⟨l, f⟩ ⟨l2, f2⟩ h
  simp only [wRowG_enc, List.cons.injEq, V.c.injEq, V.agg.injEq, C.s.injEq, S.list.injEq, S.str.injEq, S.int.injEq, S.bool.injEq, S.fn.injEq, S.cref.injEq, strE_inj, true_and, and_true] at h
  simp_all
noncomputable def wRowG : List V → Option (V) := specE wRowG_enc (fun ⟨l, f⟩ => True) (fun ⟨l, f⟩ => .c (.s (.bool true)))
theorem wRowG_eq {l : List Bs} {f : Bool} [Decidable (True)] : wRowG [.c (.s (.list 1 (encs strE l) f))] = if True then some (.c (.s (.bool true))) else none := specE_eq wRowG_inj (l, f)
theorem wRowG_call {l : List Bs} {f : Bool} {gt : Bool} {K : V → Prop} : callE wRowG [.c (.s (.list 1 (encs strE l) f))] gt K = bindV (ifV gt (.c (.s (.bool true)))) K := callE_all (by rw [wRowG_eq]; rfl)
theorem wRowG_callo {l : List Bs} {f : Bool} {m : Nat → Option Ab.Obj} {locs : List Nat} {K : V → (Nat → Option Ab.Obj) → Prop} : callO wRowG (some [.c (.s (.list 1 (encs strE l) f))]) m locs K = K (.c (.s (.bool true))) (sealW m locs (.c (.s (.bool true)))) := callO_all (by rw [wRowG_eq]; rfl)

def rowT (l : List Bs) : Bs := (l.map fun w => quoteT w ++ [32]).flatten
theorem rowT_take {l : List Bs} {i : Nat} (h : i < l.length) : rowT (l.take (i + 1)) = rowT (l.take i) ++ (quoteT (l.getD i default) ++ [32]) := by
  rw [List.take_succ_eq_append_getElem h]
  have : l.getD i default = l[i] := by simp [h]
  rw [this]; unfold rowT; rw [List.map_append, List.flatten_append]; simp
theorem rowT_len {l : List Bs} (h : ∀ w ∈ l, w.length ≤ 40) : (rowT l).length ≤ 163 * l.length := by
  induction l with
  | nil => simp [rowT]
  | cons w l ih =>
    have h1 := ih fun v hv => h v (List.mem_cons_of_mem _ hv)
    have h2 := (quote_len w).2
    have h3 := h w (by simp)
    have e : rowT (w :: l) = quoteT w ++ [32] ++ rowT l := by simp [rowT]
    rw [e]; simp; omega
theorem row_at {l : List Bs} {i : Nat} (h : i < l.length) : scanC (rowT l) (rowT (l.take i)).length = ((((rowT (l.take i)).length + (quoteT (l.getD i default)).length : Nat) : Int), true) ∧
    (rowT (l.take i)).length + (quoteT (l.getD i default)).length < (rowT l).length ∧ (rowT l).getD ((rowT (l.take i)).length + (quoteT (l.getD i default)).length) 0 = 32 ∧
    ((rowT l).take ((rowT (l.take i)).length + (quoteT (l.getD i default)).length)).drop (rowT (l.take i)).length = quoteT (l.getD i default) ∧
    (rowT (l.take (i + 1))).length = (rowT (l.take i)).length + (quoteT (l.getD i default)).length + 1 := by
  have e : rowT l = rowT (l.take i) ++ (quoteT (l.getD i default) ++ (32 :: rowT (l.drop (i + 1)))) := by
    have h1 : l = l.take i ++ l.getD i default :: l.drop (i + 1) := by
      have : l.getD i default = l[i] := by simp [h]
      rw [this, ← List.drop_eq_getElem_cons h, List.take_append_drop]
    conv => lhs; rw [h1]
    simp [rowT]
  generalize hA : rowT (l.take i) = A at *
  generalize hw : l.getD i default = w at *
  generalize hR : rowT (l.drop (i + 1)) = R at *
  have hne : (quoteT w).length ≠ 0 := fun h => quote_ne w (List.length_eq_zero_iff.1 h)
  refine ⟨?_, ?_, ?_, ?_, ?_⟩
  · have hs := scan_quote w (32 :: R) (by simp; decide)
    unfold scanC
    rw [if_pos (by rw [e]; simp <;> omega), e]
    simp only [Int.toNat_natCast, List.drop_left, hs]
    simp
  · rw [e]; simp
  · rw [e, List.getD_eq_getElem?_getD, List.getElem?_append_right (by omega), List.getElem?_append_right (by omega)]
    simp
  · rw [e, ← List.append_assoc, List.take_left' (by simp), List.drop_left]
  · rw [rowT_take h, hA, hw]; simp; omega
def sc_law01_WordRow : SC := .seq (
 .reg [
   ⟨some 2, .mv, [.k (.c (.s (.bool false)))], none⟩]) (
 .seq (
  .seq (
   .reg [
     ⟨some 15, .mv, [.t 0], none⟩,
     ⟨some 16, .len false, [.t 15], none⟩,
     ⟨some 17, .bin .gtr, [.t 16, .k (.c (.s (.int .i64 20)))], none⟩]) (
   .cond (.t 17) (
    .seq (
     .reg [
       ⟨some 18, .call 9, [], none⟩,
       ⟨some 2, .mv, [.t 18], none⟩]) (
     .ret)) (
    .skip))) (
  .seq (
   .reg [
     ⟨some 3, .mv, [.k (.c (.s (.str [])))], none⟩]) (
   .seq (
    .seq (
     .reg [
       ⟨some 19, .mv, [.t 0], none⟩,
       ⟨some 20, .len false, [.t 19], none⟩,
       ⟨some 21, .mv, [.k (.c (.s (.int .i64 0)))], none⟩]) (
     .block 0 (
      .loop (
       .seq (
        .reg [
          ⟨some 22, .bin .lss, [.t 21, .t 20], none⟩]) (
        .seq (
         .cond (.t 22) (
          .skip) (
          .exit 0)) (
         .seq (
          .block 1 (
           .seq (
            .reg [
              ⟨some 23, .iadr 1, [.t 19, .t 21], none⟩,
              ⟨some 24, .load 1 false, [.t 23], none⟩,
              ⟨some 5, .mv, [.t 24], none⟩]) (
            .seq (
             .reg [
               ⟨some 26, .mv, [.t 5], none⟩,
               ⟨some 27, .call 10, [.t 26], none⟩,
               ⟨some 25, .mv, [.t 27], none⟩,
               ⟨some 28, .ext 0, [.t 25], none⟩,
               ⟨some 29, .ext 1, [.t 25], none⟩,
               ⟨some 6, .mv, [.t 28], none⟩,
               ⟨some 7, .mv, [.t 29], none⟩]) (
             .seq (
              .seq (
               .reg [
                 ⟨some 30, .mv, [.t 7], none⟩,
                 ⟨some 31, .bin .neq, [.t 30, .k (.c (.s (.int .i64 0)))], none⟩]) (
               .cond (.t 31) (
                .seq (
                 .reg [
                   ⟨some 32, .mv, [.t 5], none⟩,
                   ⟨some 33, .len true, [.t 32], none⟩,
                   ⟨some 34, .bin .gtr, [.t 33, .k (.c (.s (.int .i64 40)))], none⟩,
                   ⟨some 35, .mv, [.t 34], none⟩,
                   ⟨some 36, .call 9, [], some (35, true)⟩,
                   ⟨some 37, .pick, [.t 35, .t 36, .k (.c (.s (.bool false)))], none⟩,
                   ⟨some 2, .mv, [.t 37], none⟩]) (
                 .ret)) (
                .skip))) (
              .reg [
                ⟨some 38, .mv, [.t 3], none⟩,
                ⟨some 39, .mv, [.t 6], none⟩,
                ⟨some 40, .bin .add, [.t 39, .k (.c (.s (.str [32])))], none⟩,
                ⟨some 41, .bin .add, [.t 38, .t 40], none⟩,
                ⟨some 3, .mv, [.t 41], none⟩]))))) (
          .reg [
            ⟨some 42, .bin .add, [.t 21, .k (.c (.s (.int .i64 1)))], none⟩,
            ⟨some 21, .mv, [.t 42], none⟩]))))))) (
    .seq (
     .reg [
       ⟨some 8, .mv, [.k (.c (.s (.int .i64 0)))], none⟩]) (
     .seq (
      .seq (
       .reg [
         ⟨some 43, .mv, [.t 0], none⟩,
         ⟨some 44, .len false, [.t 43], none⟩,
         ⟨some 45, .mv, [.k (.c (.s (.int .i64 0)))], none⟩]) (
       .block 2 (
        .loop (
         .seq (
          .reg [
            ⟨some 46, .bin .lss, [.t 45, .t 44], none⟩]) (
          .seq (
           .cond (.t 46) (
            .skip) (
            .exit 2)) (
           .seq (
            .block 3 (
             .seq (
              .reg [
                ⟨some 47, .iadr 1, [.t 43, .t 45], none⟩,
                ⟨some 48, .load 1 false, [.t 47], none⟩,
                ⟨some 10, .mv, [.t 48], none⟩]) (
              .seq (
               .reg [
                 ⟨some 50, .mv, [.t 3], none⟩,
                 ⟨some 51, .mv, [.t 8], none⟩,
                 ⟨some 52, .call 14, [.t 50, .t 51], none⟩,
                 ⟨some 49, .mv, [.t 52], none⟩,
                 ⟨some 53, .ext 0, [.t 49], none⟩,
                 ⟨some 54, .ext 1, [.t 49], none⟩,
                 ⟨some 11, .mv, [.t 53], none⟩,
                 ⟨some 12, .mv, [.t 54], none⟩]) (
               .seq (
                .seq (
                 .reg [
                   ⟨some 55, .mv, [.t 12], none⟩,
                   ⟨some 56, .not, [.t 55], none⟩,
                   ⟨some 57, .mv, [.t 56], none⟩,
                   ⟨some 58, .mv, [.t 11], some (57, false)⟩,
                   ⟨some 59, .mv, [.t 8], some (57, false)⟩,
                   ⟨some 60, .bin .leq, [.t 58, .t 59], some (57, false)⟩,
                   ⟨some 61, .pick, [.t 57, .k (.c (.s (.bool true))), .t 60], none⟩,
                   ⟨some 62, .mv, [.t 61], none⟩,
                   ⟨some 63, .mv, [.t 11], some (62, false)⟩,
                   ⟨some 64, .mv, [.t 3], some (62, false)⟩,
                   ⟨some 65, .len true, [.t 64], some (62, false)⟩,
                   ⟨some 66, .bin .geq, [.t 63, .t 65], some (62, false)⟩,
                   ⟨some 67, .pick, [.t 62, .k (.c (.s (.bool true))), .t 66], none⟩,
                   ⟨some 68, .mv, [.t 67], none⟩,
                   ⟨some 69, .mv, [.t 3], some (68, false)⟩,
                   ⟨some 70, .mv, [.t 11], some (68, false)⟩,
                   ⟨some 71, .idx, [.t 69, .t 70], some (68, false)⟩,
                   ⟨some 72, .bin .neq, [.t 71, .k (.c (.s (.int .u8 32)))], some (68, false)⟩,
                   ⟨some 73, .pick, [.t 68, .k (.c (.s (.bool true))), .t 72], none⟩]) (
                 .cond (.t 73) (
                  .seq (
                   .reg [
                     ⟨some 2, .mv, [.k (.c (.s (.bool false)))], none⟩]) (
                   .ret)) (
                  .skip))) (
                .seq (
                 .reg [
                   ⟨some 75, .mv, [.t 3], none⟩,
                   ⟨some 76, .mv, [.t 8], none⟩,
                   ⟨some 77, .mv, [.t 11], none⟩,
                   ⟨some 78, .slcS true true, [.t 75, .t 76, .t 77], none⟩,
                   ⟨some 79, .call 13, [.t 78], none⟩,
                   ⟨some 74, .mv, [.t 79], none⟩,
                   ⟨some 80, .ext 0, [.t 74], none⟩,
                   ⟨some 81, .ext 1, [.t 74], none⟩,
                   ⟨some 13, .mv, [.t 80], none⟩,
                   ⟨some 14, .mv, [.t 81], none⟩]) (
                 .seq (
                  .seq (
                   .reg [
                     ⟨some 82, .mv, [.t 14], none⟩,
                     ⟨some 83, .bin .neq, [.t 82, .k (.c (.s (.int .i64 0)))], none⟩,
                     ⟨some 84, .mv, [.t 83], none⟩,
                     ⟨some 85, .mv, [.t 13], some (84, false)⟩,
                     ⟨some 86, .mv, [.t 10], some (84, false)⟩,
                     ⟨some 87, .bin .neq, [.t 85, .t 86], some (84, false)⟩,
                     ⟨some 88, .pick, [.t 84, .k (.c (.s (.bool true))), .t 87], none⟩]) (
                   .cond (.t 88) (
                    .seq (
                     .reg [
                       ⟨some 2, .mv, [.k (.c (.s (.bool false)))], none⟩]) (
                     .ret)) (
                    .skip))) (
                  .reg [
                    ⟨some 89, .mv, [.t 11], none⟩,
                    ⟨some 90, .bin .add, [.t 89, .k (.c (.s (.int .i64 1)))], none⟩,
                    ⟨some 8, .mv, [.t 90], none⟩]))))))) (
            .reg [
              ⟨some 91, .bin .add, [.t 45, .k (.c (.s (.int .i64 1)))], none⟩,
              ⟨some 45, .mv, [.t 91], none⟩]))))))) (
      .seq (
       .reg [
         ⟨some 92, .mv, [.t 8], none⟩,
         ⟨some 93, .mv, [.t 3], none⟩,
         ⟨some 94, .len true, [.t 93], none⟩,
         ⟨some 95, .bin .eql, [.t 92, .t 94], none⟩,
         ⟨some 96, .mv, [.t 95], none⟩,
         ⟨some 97, .call 9, [], some (96, true)⟩,
         ⟨some 98, .pick, [.t 96, .t 97, .k (.c (.s (.bool false)))], none⟩,
         ⟨some 2, .mv, [.t 98], none⟩]) (
       .ret)))))))
noncomputable def G_law01_WordRow : FuncId → Ab.Spec := addS (addS (addS (addS (noS) 9 (plain awake01G)) 10 (plain quoteG)) 14 (plain scanG)) 13 (plain unqG)
theorem G_law01_WordRow_ok : ∀ f, Contract Try.prog f (G_law01_WordRow f) := (addS_ok (addS_ok (addS_ok (addS_ok (noS_ok _) contract_law01_awake) contract_word_Quote) contract_word_Scan) contract_word_Unquote)
theorem G_law01_WordRow_9 : G_law01_WordRow 9 = plain awake01G := by simp [G_law01_WordRow, addS]
theorem G_law01_WordRow_10 : G_law01_WordRow 10 = plain quoteG := by simp [G_law01_WordRow, addS]
theorem G_law01_WordRow_14 : G_law01_WordRow 14 = plain scanG := by simp [G_law01_WordRow, addS]
theorem G_law01_WordRow_13 : G_law01_WordRow 13 = plain unqG := by simp [G_law01_WordRow, addS]
set_option maxHeartbeats 4000000 in
set_option maxRecDepth 100000 in
set_option linter.unusedSimpArgs false in
set_option linter.unusedVariables false in
theorem contract_law01_WordRow : Contract Try.prog 8 (plain wRowG) := by
  have hb : ∃ c, Try.f8.body = some c ∧ codeOk 99 c = true ∧ cCode Try.prog c = sc_law01_WordRow := ⟨_, rfl, by kernel_rfl, by kernel_rfl⟩
  obtain ⟨c, hb1, hb2, hb3⟩ := hb
  refine contract_of (n := 1) G_law01_WordRow_ok hB hD Try.func8 hb1 (by kernel_rfl) hb2 hb3 (rs := [.tmp 2]) (by kernel_rfl) (by decide) ?_ ?_
  · intro args x h
    obtain ⟨y, hy, -⟩ := Option.map_eq_some_iff.1 h
    obtain ⟨⟨l, f⟩, rfl, -⟩ := specE_some hy
    rfl
  · intro args r hr
    obtain ⟨y, hy, rfl⟩ := Option.map_eq_some_iff.1 hr
    obtain ⟨⟨l, f⟩, rfl, hc, rfl⟩ := specE_some hy
    clear hr hy
    have hc : True := hc
    change awp _ _ (postQ _ (.v (.c (.s (.bool true))))) _
    unfold wRowG_enc sc_law01_WordRow
    by_cases h20 : 20 < l.length
    · have h20' : 20 < (l.length : Int) := by omega
      simp +contextual (maxSteps := 4000000) only [↓exT_call G_law01_WordRow_9, ↓exT_callo G_law01_WordRow_9, awake01G_call, awake01G_callo, ↓exT_call G_law01_WordRow_10, ↓exT_callo G_law01_WordRow_10, quoteG_call, quoteG_callo, ↓exT_call G_law01_WordRow_14, ↓exT_callo G_law01_WordRow_14, scanG_call, scanG_callo, ↓exT_call G_law01_WordRow_13, ↓exT_callo G_law01_WordRow_13, unqG_call, unqG_callo, h20', go_sem, Nat.reduceAdd, Nat.reduceSub, Nat.reduceMul, Nat.reduceEqDiff, Nat.reduceLeDiff, Nat.reduceLT, Nat.reduceBEq, Int.reduceLE, Int.reduceLT, Int.reduceToNat, Int.reduceNeg, Int.reduceAdd, Int.reduceSub, Int.reduceMul, ↓reduceIte]
    have h20' : ¬ 20 < (l.length : Int) := by omega
    simp +contextual (maxSteps := 4000000) only [↓exT_call G_law01_WordRow_9, ↓exT_callo G_law01_WordRow_9, awake01G_call, awake01G_callo, ↓exT_call G_law01_WordRow_10, ↓exT_callo G_law01_WordRow_10, quoteG_call, quoteG_callo, ↓exT_call G_law01_WordRow_14, ↓exT_callo G_law01_WordRow_14, scanG_call, scanG_callo, ↓exT_call G_law01_WordRow_13, ↓exT_callo G_law01_WordRow_13, unqG_call, unqG_callo, h20', go_sem, Nat.reduceAdd, Nat.reduceSub, Nat.reduceMul, Nat.reduceEqDiff, Nat.reduceLeDiff, Nat.reduceLT, Nat.reduceBEq, Int.reduceLE, Int.reduceLT, Int.reduceToNat, Int.reduceNeg, Int.reduceAdd, Int.reduceSub, Int.reduceMul, ↓reduceIte]
    refine awp_loopM (α := Nat) (fun i => [(0, .c (.s (.list 1 (encs strE l) f))), (3, .c (.s (.str (rowT (l.take i))))), (19, .c (.s (.list 1 (encs strE l) f))), (20, .c (.s (.int .i64 l.length))), (21, .c (.s (.int .i64 i)))]) (fun _ => []) (fun i => l.length - i) 0 (fun i => i ≤ l.length ∧ ∀ w ∈ l.take i, w.length ≤ 40) ⟨Nat.zero_le _, by simp⟩ (Weak.meets ?_) ?_
    · simp +contextual (maxSteps := 4000000) only [↓exT_call G_law01_WordRow_9, ↓exT_callo G_law01_WordRow_9, awake01G_call, awake01G_callo, ↓exT_call G_law01_WordRow_10, ↓exT_callo G_law01_WordRow_10, quoteG_call, quoteG_callo, ↓exT_call G_law01_WordRow_14, ↓exT_callo G_law01_WordRow_14, scanG_call, scanG_callo, ↓exT_call G_law01_WordRow_13, ↓exT_callo G_law01_WordRow_13, unqG_call, unqG_callo, go_sem, Nat.reduceAdd, Nat.reduceSub, Nat.reduceMul, Nat.reduceEqDiff, Nat.reduceLeDiff, Nat.reduceLT, Nat.reduceBEq, Int.reduceLE, Int.reduceLT, Int.reduceToNat, Int.reduceNeg, Int.reduceAdd, Int.reduceSub, Int.reduceMul, ↓reduceIte]
      simp [rowT]
    rintro x ⟨hx, hw⟩
    have hrl := rowT_len hw
    simp only [List.length_take] at hrl
    by_cases hxl : x < l.length
    · have hxi : (x : Int) < (l.length : Int) := by omega
      have hql := quote_len (l.getD x default)
      by_cases h40 : 40 < (l.getD x default).length
      · have h40' : 40 < (((l.getD x default).length : Nat) : Int) := by omega
        simp +contextual (maxSteps := 4000000) only [↓exT_call G_law01_WordRow_9, ↓exT_callo G_law01_WordRow_9, awake01G_call, awake01G_callo, ↓exT_call G_law01_WordRow_10, ↓exT_callo G_law01_WordRow_10, quoteG_call, quoteG_callo, ↓exT_call G_law01_WordRow_14, ↓exT_callo G_law01_WordRow_14, scanG_call, scanG_callo, ↓exT_call G_law01_WordRow_13, ↓exT_callo G_law01_WordRow_13, unqG_call, unqG_callo, hxi, h40, h40', go_sem, Nat.reduceAdd, Nat.reduceSub, Nat.reduceMul, Nat.reduceEqDiff, Nat.reduceLeDiff, Nat.reduceLT, Nat.reduceBEq, Int.reduceLE, Int.reduceLT, Int.reduceToNat, Int.reduceNeg, Int.reduceAdd, Int.reduceSub, Int.reduceMul, ↓reduceIte]
        all_goals ((repeat' (first | with_reducible apply And.intro | intro)) <;> try omega)
      · simp +contextual (maxSteps := 4000000) only [↓exT_call G_law01_WordRow_9, ↓exT_callo G_law01_WordRow_9, awake01G_call, awake01G_callo, ↓exT_call G_law01_WordRow_10, ↓exT_callo G_law01_WordRow_10, quoteG_call, quoteG_callo, ↓exT_call G_law01_WordRow_14, ↓exT_callo G_law01_WordRow_14, scanG_call, scanG_callo, ↓exT_call G_law01_WordRow_13, ↓exT_callo G_law01_WordRow_13, unqG_call, unqG_callo, hxi, h40, go_sem, Nat.reduceAdd, Nat.reduceSub, Nat.reduceMul, Nat.reduceEqDiff, Nat.reduceLeDiff, Nat.reduceLT, Nat.reduceBEq, Int.reduceLE, Int.reduceLT, Int.reduceToNat, Int.reduceNeg, Int.reduceAdd, Int.reduceSub, Int.reduceMul, ↓reduceIte]
        all_goals ((repeat' (first | with_reducible apply And.intro | intro)) <;> try omega)
        refine ⟨x + 1, ⟨by omega, ?_⟩, by omega, ?_, by omega⟩
        · intro w hwm
          rw [List.take_succ_eq_append_getElem hxl] at hwm
          rcases List.mem_append.1 hwm with h | h
          · exact hw w h
          · simp at h
            have : l.getD x default = l[x] := by simp [hxl]
            rw [h, ← this]; omega
        · rw [rowT_take hxl]
    have hxe : x = l.length := by omega
    subst hxe
    simp only [List.take_length] at *
    have hxi : ¬ (l.length : Int) < (l.length : Int) := by omega
    simp +contextual (maxSteps := 4000000) only [↓exT_call G_law01_WordRow_9, ↓exT_callo G_law01_WordRow_9, awake01G_call, awake01G_callo, ↓exT_call G_law01_WordRow_10, ↓exT_callo G_law01_WordRow_10, quoteG_call, quoteG_callo, ↓exT_call G_law01_WordRow_14, ↓exT_callo G_law01_WordRow_14, scanG_call, scanG_callo, ↓exT_call G_law01_WordRow_13, ↓exT_callo G_law01_WordRow_13, unqG_call, unqG_callo, hxi, go_sem, Nat.reduceAdd, Nat.reduceSub, Nat.reduceMul, Nat.reduceEqDiff, Nat.reduceLeDiff, Nat.reduceLT, Nat.reduceBEq, Int.reduceLE, Int.reduceLT, Int.reduceToNat, Int.reduceNeg, Int.reduceAdd, Int.reduceSub, Int.reduceMul, ↓reduceIte]
    refine awp_loopM (α := Nat) (fun i => [(3, .c (.s (.str (rowT l)))), (8, .c (.s (.int .i64 (rowT (l.take i)).length))), (43, .c (.s (.list 1 (encs strE l) f))), (44, .c (.s (.int .i64 l.length))), (45, .c (.s (.int .i64 i)))]) (fun _ => []) (fun i => l.length - i) 0 (fun i => i ≤ l.length) (Nat.zero_le _) (Weak.meets ?_) ?_
    · simp +contextual (maxSteps := 4000000) only [↓exT_call G_law01_WordRow_9, ↓exT_callo G_law01_WordRow_9, awake01G_call, awake01G_callo, ↓exT_call G_law01_WordRow_10, ↓exT_callo G_law01_WordRow_10, quoteG_call, quoteG_callo, ↓exT_call G_law01_WordRow_14, ↓exT_callo G_law01_WordRow_14, scanG_call, scanG_callo, ↓exT_call G_law01_WordRow_13, ↓exT_callo G_law01_WordRow_13, unqG_call, unqG_callo, go_sem, Nat.reduceAdd, Nat.reduceSub, Nat.reduceMul, Nat.reduceEqDiff, Nat.reduceLeDiff, Nat.reduceLT, Nat.reduceBEq, Int.reduceLE, Int.reduceLT, Int.reduceToNat, Int.reduceNeg, Int.reduceAdd, Int.reduceSub, Int.reduceMul, ↓reduceIte]
      simp [rowT]
    intro x hx
    by_cases hxl : x < l.length
    · have hxi2 : (x : Int) < (l.length : Int) := by omega
      obtain ⟨r1, r2, r3, r4, r5⟩ := row_at hxl
      have hwx := hw (l.getD x default) (getD_mem hxl)
      have hu := unquote_quote _ hwx
      have hql := quote_len (l.getD x default)
      have hne : (quoteT (l.getD x default)).length ≠ 0 := fun h => quote_ne _ (List.length_eq_zero_iff.1 h)
      generalize hqd : (quoteT (l.getD x default)).length = q at *
      generalize (rowT (l.take x)).length = A at *
      have e1 : ¬ ((A + q : Nat) : Int) ≤ (A : Int) := by omega
      have e2 : ¬ ((rowT l).length : Int) ≤ ((A + q : Nat) : Int) := by omega
      simp +contextual (maxSteps := 4000000) only [↓exT_call G_law01_WordRow_9, ↓exT_callo G_law01_WordRow_9, awake01G_call, awake01G_callo, ↓exT_call G_law01_WordRow_10, ↓exT_callo G_law01_WordRow_10, quoteG_call, quoteG_callo, ↓exT_call G_law01_WordRow_14, ↓exT_callo G_law01_WordRow_14, scanG_call, scanG_callo, ↓exT_call G_law01_WordRow_13, ↓exT_callo G_law01_WordRow_13, unqG_call, unqG_callo, hxi2, r1, e1, e2, r3, r4, hu, go_sem, Nat.reduceAdd, Nat.reduceSub, Nat.reduceMul, Nat.reduceEqDiff, Nat.reduceLeDiff, Nat.reduceLT, Nat.reduceBEq, Int.reduceLE, Int.reduceLT, Int.reduceToNat, Int.reduceNeg, Int.reduceAdd, Int.reduceSub, Int.reduceMul, ↓reduceIte]
      all_goals ((repeat' (first | with_reducible apply And.intro | intro)) <;> try omega)
      exact ⟨x + 1, by omega, by omega, by rw [r5]; omega, by omega⟩
    · have hxe : x = l.length := by omega
      subst hxe
      simp only [List.take_length] at *
      simp +contextual (maxSteps := 4000000) only [↓exT_call G_law01_WordRow_9, ↓exT_callo G_law01_WordRow_9, awake01G_call, awake01G_callo, ↓exT_call G_law01_WordRow_10, ↓exT_callo G_law01_WordRow_10, quoteG_call, quoteG_callo, ↓exT_call G_law01_WordRow_14, ↓exT_callo G_law01_WordRow_14, scanG_call, scanG_callo, ↓exT_call G_law01_WordRow_13, ↓exT_callo G_law01_WordRow_13, unqG_call, unqG_callo, hxi, go_sem, Nat.reduceAdd, Nat.reduceSub, Nat.reduceMul, Nat.reduceEqDiff, Nat.reduceLeDiff, Nat.reduceLT, Nat.reduceBEq, Int.reduceLE, Int.reduceLT, Int.reduceToNat, Int.reduceNeg, Int.reduceAdd, Int.reduceSub, Int.reduceMul, ↓reduceIte]

end Go.Proofs.Ytkhplfdijadhbaa
