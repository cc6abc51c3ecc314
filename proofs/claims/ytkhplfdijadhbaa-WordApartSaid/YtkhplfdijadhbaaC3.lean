/- The document's answer for the words: what each function hands back. -/
import Derived.Test.YtkhplfdijadhbaaC2
set_option linter.all false
namespace Go.Proofs.Ytkhplfdijadhbaa
open Go Go.Ab Go.Proofs Go.Fs
def rbareG : List V → Option V
  | [.c (.s (.int .u8 c))] => if 0 ≤ c ∧ c < 256 then some (.c (.s (.bool (bareB (UInt8.ofNat c.toNat))))) else none
  | _ => none
theorem rbareG_call {c : Int} {gt : Bool} {K : V → Prop} : callE rbareG [.c (.s (.int .u8 c))] gt K = ((gt = true → 0 ≤ c ∧ c < 256) ∧ bindV (ifV gt (.c (.s (.bool (bareB (UInt8.ofNat c.toNat)))))) K) := callE_of rfl
theorem rbareG_callo {c : Int} {m : Nat → Option Ab.Obj} {locs : List Nat} {K : V → (Nat → Option Ab.Obj) → Prop} : callO rbareG (some [.c (.s (.int .u8 c))]) m locs K = ((0 ≤ c ∧ c < 256) ∧ K (.c (.s (.bool (bareB (UInt8.ofNat c.toNat))))) (sealW m locs (.c (.s (.bool (bareB (UInt8.ofNat c.toNat))))))) := callO_of rfl

def sc_ref01_bare : SC := .seq (
 .reg [
   ⟨some 2, .mv, [.k (.c (.s (.bool false)))], none⟩]) (
 .seq (
  .seq (
   .reg [
     ⟨some 3, .mv, [.t 0], none⟩,
     ⟨some 4, .bin .geq, [.t 3, .k (.c (.s (.int .u8 97)))], none⟩,
     ⟨some 5, .mv, [.t 4], none⟩,
     ⟨some 6, .mv, [.t 0], some (5, true)⟩,
     ⟨some 7, .bin .leq, [.t 6, .k (.c (.s (.int .u8 122)))], some (5, true)⟩,
     ⟨some 8, .pick, [.t 5, .t 7, .k (.c (.s (.bool false)))], none⟩,
     ⟨some 9, .mv, [.t 8], none⟩,
     ⟨some 10, .mv, [.t 0], some (9, false)⟩,
     ⟨some 11, .bin .geq, [.t 10, .k (.c (.s (.int .u8 65)))], some (9, false)⟩,
     ⟨some 12, .mv, [.t 11], some (9, false)⟩,
     ⟨some 13, .mv, [.t 0], some (12, true)⟩,
     ⟨some 14, .bin .leq, [.t 13, .k (.c (.s (.int .u8 90)))], some (12, true)⟩,
     ⟨some 15, .pick, [.t 12, .t 14, .k (.c (.s (.bool false)))], some (9, false)⟩,
     ⟨some 16, .pick, [.t 9, .k (.c (.s (.bool true))), .t 15], none⟩,
     ⟨some 17, .mv, [.t 16], none⟩,
     ⟨some 18, .mv, [.t 0], some (17, false)⟩,
     ⟨some 19, .bin .geq, [.t 18, .k (.c (.s (.int .u8 48)))], some (17, false)⟩,
     ⟨some 20, .mv, [.t 19], some (17, false)⟩,
     ⟨some 21, .mv, [.t 0], some (20, true)⟩,
     ⟨some 22, .bin .leq, [.t 21, .k (.c (.s (.int .u8 57)))], some (20, true)⟩,
     ⟨some 23, .pick, [.t 20, .t 22, .k (.c (.s (.bool false)))], some (17, false)⟩,
     ⟨some 24, .pick, [.t 17, .k (.c (.s (.bool true))), .t 23], none⟩]) (
   .cond (.t 24) (
    .seq (
     .reg [
       ⟨some 2, .mv, [.k (.c (.s (.bool true)))], none⟩]) (
     .ret)) (
    .skip))) (
  .seq (
   .reg [
     ⟨some 25, .mv, [.t 0], none⟩,
     ⟨some 26, .bin .eql, [.t 25, .k (.c (.s (.int .u8 45)))], none⟩,
     ⟨some 27, .mv, [.t 26], none⟩,
     ⟨some 28, .mv, [.t 0], some (27, false)⟩,
     ⟨some 29, .bin .eql, [.t 28, .k (.c (.s (.int .u8 95)))], some (27, false)⟩,
     ⟨some 30, .pick, [.t 27, .k (.c (.s (.bool true))), .t 29], none⟩,
     ⟨some 31, .mv, [.t 30], none⟩,
     ⟨some 32, .mv, [.t 0], some (31, false)⟩,
     ⟨some 33, .bin .eql, [.t 32, .k (.c (.s (.int .u8 46)))], some (31, false)⟩,
     ⟨some 34, .pick, [.t 31, .k (.c (.s (.bool true))), .t 33], none⟩,
     ⟨some 35, .mv, [.t 34], none⟩,
     ⟨some 36, .mv, [.t 0], some (35, false)⟩,
     ⟨some 37, .bin .eql, [.t 36, .k (.c (.s (.int .u8 47)))], some (35, false)⟩,
     ⟨some 38, .pick, [.t 35, .k (.c (.s (.bool true))), .t 37], none⟩,
     ⟨some 39, .mv, [.t 38], none⟩,
     ⟨some 40, .mv, [.t 0], some (39, false)⟩,
     ⟨some 41, .bin .eql, [.t 40, .k (.c (.s (.int .u8 58)))], some (39, false)⟩,
     ⟨some 42, .pick, [.t 39, .k (.c (.s (.bool true))), .t 41], none⟩,
     ⟨some 43, .mv, [.t 42], none⟩,
     ⟨some 44, .mv, [.t 0], some (43, false)⟩,
     ⟨some 45, .bin .eql, [.t 44, .k (.c (.s (.int .u8 42)))], some (43, false)⟩,
     ⟨some 46, .pick, [.t 43, .k (.c (.s (.bool true))), .t 45], none⟩,
     ⟨some 2, .mv, [.t 46], none⟩]) (
   .ret)))
noncomputable def G_ref01_bare : FuncId → Ab.Spec := noS
theorem G_ref01_bare_ok : ∀ f, Contract Try.prog f (G_ref01_bare f) := (noS_ok _)
set_option maxHeartbeats 4000000 in
set_option maxRecDepth 100000 in
set_option linter.unusedSimpArgs false in
set_option linter.unusedVariables false in
theorem contract_ref01_bare : Contract Try.prog 24 (plain rbareG) := by
  have hb : ∃ c, Try.f24.body = some c ∧ codeOk 47 c = true ∧ cCode Try.prog c = sc_ref01_bare := ⟨_, rfl, by kernel_rfl, by kernel_rfl⟩
  obtain ⟨c, hb1, hb2, hb3⟩ := hb
  refine contract_of (n := 1) G_ref01_bare_ok hB hD Try.func24 hb1 (by kernel_rfl) hb2 hb3 (rs := [.tmp 2]) (by kernel_rfl) (by decide) ?_ ?_
  · intro args x h
    unfold plain rbareG at h
    split at h <;> simp_all
  · intro args r hr
    unfold plain rbareG at hr
    split at hr
    case h_2 => cases hr
    rename_i c
    split at hr
    case isFalse => cases hr
    rename_i hc
    simp only [Option.map_some, Option.some.injEq] at hr
    subst hr
    unfold sc_ref01_bare
    obtain ⟨x, rfl⟩ := byte_ex hc
    simp +contextual (maxSteps := 4000000) only [go_sem, Nat.reduceAdd, Nat.reduceSub, Nat.reduceMul, Nat.reduceEqDiff, Nat.reduceLeDiff, Nat.reduceLT, Nat.reduceBEq, Int.reduceLE, Int.reduceLT, Int.reduceToNat, Int.reduceNeg, Int.reduceAdd, Int.reduceSub, Int.reduceMul, ↓reduceIte]
    clear hc
    induction x using byte_ind with
    | h n => revert n; decide +kernel

def rBareG : List V → Option V
  | [.c (.s (.str s))] => if s.length < 9223372036854775807 then some (.c (.s (.bool (wordC s)))) else none
  | _ => none
theorem rBareG_call {s : Bs} {gt : Bool} {K : V → Prop} : callE rBareG [.c (.s (.str s))] gt K = ((gt = true → s.length < 9223372036854775807) ∧ bindV (ifV gt (.c (.s (.bool (wordC s))))) K) := callE_of rfl
theorem rBareG_callo {s : Bs} {m : Nat → Option Ab.Obj} {locs : List Nat} {K : V → (Nat → Option Ab.Obj) → Prop} : callO rBareG (some [.c (.s (.str s))]) m locs K = ((s.length < 9223372036854775807) ∧ K (.c (.s (.bool (wordC s)))) (sealW m locs (.c (.s (.bool (wordC s)))))) := callO_of rfl

theorem mark_at (s : Bs) : (decide (1 < (s.length : Int)) && decide (s.getD 0 0 = 47) && decide (s.getD 1 0 = 42)) = (decide (2 ≤ s.length) && decide (s.take 2 = [47, 42])) := by
  match s with
  | [] => rfl
  | [c] => rfl
  | c :: d :: r =>
    have h1 : decide (1 < ((c :: d :: r).length : Int)) = true := by simp only [List.length_cons]; exact decide_eq_true (by omega)
    rw [h1]
    by_cases h2 : c = 47 <;> by_cases h3 : d = 42 <;> simp [h2, h3]
def sc_ref01_Bare : SC := .seq (
 .reg [
   ⟨some 2, .mv, [.k (.c (.s (.bool false)))], none⟩]) (
 .seq (
  .seq (
   .reg [
     ⟨some 4, .mv, [.t 0], none⟩,
     ⟨some 5, .bin .eql, [.t 4, .k (.c (.s (.str [])))], none⟩,
     ⟨some 6, .mv, [.t 5], none⟩,
     ⟨some 7, .mv, [.t 0], some (6, false)⟩,
     ⟨some 8, .bin .eql, [.t 7, .k (.c (.s (.str [105, 110, 97, 99, 116, 105, 118, 101, 58])))], some (6, false)⟩,
     ⟨some 9, .pick, [.t 6, .k (.c (.s (.bool true))), .t 8], none⟩,
     ⟨some 10, .mv, [.t 9], none⟩,
     ⟨some 11, .mv, [.t 0], some (10, false)⟩,
     ⟨some 12, .bin .eql, [.t 11, .k (.c (.s (.str [112, 114, 111, 116, 101, 99, 116, 58])))], some (10, false)⟩,
     ⟨some 13, .pick, [.t 10, .k (.c (.s (.bool true))), .t 12], none⟩,
     ⟨some 14, .mv, [.t 13], none⟩,
     ⟨some 15, .mv, [.t 0], some (14, false)⟩,
     ⟨some 16, .len true, [.t 15], some (14, false)⟩,
     ⟨some 17, .bin .gtr, [.t 16, .k (.c (.s (.int .i64 1)))], some (14, false)⟩,
     ⟨some 18, .mv, [.t 17], some (14, false)⟩,
     ⟨some 19, .mv, [.t 0], some (18, true)⟩,
     ⟨some 20, .idx, [.t 19, .k (.c (.s (.int .i64 0)))], some (18, true)⟩,
     ⟨some 21, .bin .eql, [.t 20, .k (.c (.s (.int .u8 47)))], some (18, true)⟩,
     ⟨some 22, .pick, [.t 18, .t 21, .k (.c (.s (.bool false)))], some (14, false)⟩,
     ⟨some 23, .mv, [.t 22], some (14, false)⟩,
     ⟨some 24, .mv, [.t 0], some (23, true)⟩,
     ⟨some 25, .idx, [.t 24, .k (.c (.s (.int .i64 1)))], some (23, true)⟩,
     ⟨some 26, .bin .eql, [.t 25, .k (.c (.s (.int .u8 42)))], some (23, true)⟩,
     ⟨some 27, .pick, [.t 23, .t 26, .k (.c (.s (.bool false)))], some (14, false)⟩,
     ⟨some 28, .pick, [.t 14, .k (.c (.s (.bool true))), .t 27], none⟩]) (
   .cond (.t 28) (
    .seq (
     .reg [
       ⟨some 2, .mv, [.k (.c (.s (.bool false)))], none⟩]) (
     .ret)) (
    .skip))) (
  .seq (
   .seq (
    .reg [
      ⟨some 3, .mv, [.k (.c (.s (.int .i64 0)))], none⟩]) (
    .block 0 (
     .loop (
      .seq (
       .seq (
        .reg [
          ⟨some 29, .mv, [.t 3], none⟩,
          ⟨some 30, .mv, [.t 0], none⟩,
          ⟨some 31, .len true, [.t 30], none⟩,
          ⟨some 32, .bin .lss, [.t 29, .t 31], none⟩]) (
        .cond (.t 32) (
         .skip) (
         .exit 0))) (
       .seq (
        .block 1 (
         .seq (
          .reg [
            ⟨some 35, .mv, [.t 0], none⟩,
            ⟨some 36, .mv, [.t 3], none⟩,
            ⟨some 37, .idx, [.t 35, .t 36], none⟩,
            ⟨some 38, .call 24, [.t 37], none⟩,
            ⟨some 39, .not, [.t 38], none⟩]) (
          .cond (.t 39) (
           .seq (
            .reg [
              ⟨some 2, .mv, [.k (.c (.s (.bool false)))], none⟩]) (
            .ret)) (
           .skip)))) (
        .reg [
          ⟨some 33, .mv, [.t 3], none⟩,
          ⟨some 34, .bin .add, [.t 33, .k (.c (.s (.int .i64 1)))], none⟩,
          ⟨some 3, .mv, [.t 34], none⟩])))))) (
   .seq (
    .reg [
      ⟨some 2, .mv, [.k (.c (.s (.bool true)))], none⟩]) (
    .ret))))
noncomputable def G_ref01_Bare : FuncId → Ab.Spec := addS (noS) 24 (plain rbareG)
theorem G_ref01_Bare_ok : ∀ f, Contract Try.prog f (G_ref01_Bare f) := (addS_ok (noS_ok _) contract_ref01_bare)
theorem G_ref01_Bare_24 : G_ref01_Bare 24 = plain rbareG := by simp [G_ref01_Bare, addS]
set_option maxHeartbeats 4000000 in
set_option maxRecDepth 100000 in
set_option linter.unusedSimpArgs false in
set_option linter.unusedVariables false in
theorem contract_ref01_Bare : Contract Try.prog 12 (plain rBareG) := by
  have hb : ∃ c, Try.f12.body = some c ∧ codeOk 40 c = true ∧ cCode Try.prog c = sc_ref01_Bare := ⟨_, rfl, by kernel_rfl, by kernel_rfl⟩
  obtain ⟨c, hb1, hb2, hb3⟩ := hb
  refine contract_of (n := 1) G_ref01_Bare_ok hB hD Try.func12 hb1 (by kernel_rfl) hb2 hb3 (rs := [.tmp 2]) (by kernel_rfl) (by decide) ?_ ?_
  · intro args x h
    unfold plain rBareG at h
    split at h <;> simp_all
  · intro args r hr
    unfold plain rBareG at hr
    split at hr
    case h_2 => cases hr
    rename_i s
    split at hr
    case isFalse => cases hr
    rename_i hc
    simp only [Option.map_some, Option.some.injEq] at hr
    subst hr
    unfold sc_ref01_Bare
    by_cases h1 : s = [] ∨ s = [105, 110, 97, 99, 116, 105, 118, 101, 58] ∨ s = [112, 114, 111, 116, 101, 99, 116, 58]
    · have hw : wordC s = false := by rcases h1 with rfl | rfl | rfl <;> decide
      have e : (decide (s = []) || decide (s = [105, 110, 97, 99, 116, 105, 118, 101, 58]) || decide (s = [112, 114, 111, 116, 101, 99, 116, 58])) = true := by
        rcases h1 with rfl | rfl | rfl <;> decide
      simp +contextual (maxSteps := 4000000) only [↓exT_call G_ref01_Bare_24, ↓exT_callo G_ref01_Bare_24, rbareG_call, rbareG_callo, e, hw, go_sem, Nat.reduceAdd, Nat.reduceSub, Nat.reduceMul, Nat.reduceEqDiff, Nat.reduceLeDiff, Nat.reduceLT, Nat.reduceBEq, Int.reduceLE, Int.reduceLT, Int.reduceToNat, Int.reduceNeg, Int.reduceAdd, Int.reduceSub, Int.reduceMul, ↓reduceIte]
    have h1' : ¬ s = [] ∧ ¬ s = [105, 110, 97, 99, 116, 105, 118, 101, 58] ∧ ¬ s = [112, 114, 111, 116, 101, 99, 116, 58] := ⟨fun h => h1 (.inl h), fun h => h1 (.inr (.inl h)), fun h => h1 (.inr (.inr h))⟩
    have hl : s.length ≠ 0 := fun h => h1'.1 (List.length_eq_zero_iff.1 h)
    by_cases hm : (decide (2 ≤ s.length) && decide (s.take 2 = [47, 42])) = true
    · have hw : wordC s = false := by simp [wordC, markC]; intro _ _; simp at hm; simp [hm]
      rw [← mark_at] at hm
      simp only [Bool.and_eq_true, decide_eq_true_eq] at hm
      simp +contextual (maxSteps := 4000000) only [↓exT_call G_ref01_Bare_24, ↓exT_callo G_ref01_Bare_24, rbareG_call, rbareG_callo, h1'.1, h1'.2.1, h1'.2.2, hm.1.1, hm.1.2, hm.2, hw, go_sem, Nat.reduceAdd, Nat.reduceSub, Nat.reduceMul, Nat.reduceEqDiff, Nat.reduceLeDiff, Nat.reduceLT, Nat.reduceBEq, Int.reduceLE, Int.reduceLT, Int.reduceToNat, Int.reduceNeg, Int.reduceAdd, Int.reduceSub, Int.reduceMul, ↓reduceIte]
      omega
    have hm := Bool.not_eq_true _ ▸ hm
    have hw : wordC s = s.all bareB := by simp only [wordC, markC, h1'.1, h1'.2.1, h1'.2.2, hm]; simp
    rw [← mark_at] at hm
    simp +contextual (maxSteps := 4000000) only [↓exT_call G_ref01_Bare_24, ↓exT_callo G_ref01_Bare_24, rbareG_call, rbareG_callo, h1'.1, h1'.2.1, h1'.2.2, hm, hw, go_sem, Nat.reduceAdd, Nat.reduceSub, Nat.reduceMul, Nat.reduceEqDiff, Nat.reduceLeDiff, Nat.reduceLT, Nat.reduceBEq, Int.reduceLE, Int.reduceLT, Int.reduceToNat, Int.reduceNeg, Int.reduceAdd, Int.reduceSub, Int.reduceMul, ↓reduceIte]
    refine ⟨fun _ => by omega, ?_⟩
    refine awp_loopM (α := Nat) (fun i => [(0, .c (.s (.str s))), (3, .c (.s (.int .i64 i)))]) (fun _ => []) (fun i => s.length - i) 0 (fun i => i ≤ bareN s) (Nat.zero_le _) (Weak.meets ?_) ?_
    · simp +contextual (maxSteps := 4000000) only [↓exT_call G_ref01_Bare_24, ↓exT_callo G_ref01_Bare_24, rbareG_call, rbareG_callo, go_sem, Nat.reduceAdd, Nat.reduceSub, Nat.reduceMul, Nat.reduceEqDiff, Nat.reduceLeDiff, Nat.reduceLT, Nat.reduceBEq, Int.reduceLE, Int.reduceLT, Int.reduceToNat, Int.reduceNeg, Int.reduceAdd, Int.reduceSub, Int.reduceMul, ↓reduceIte]
      rfl
    intro x hx
    have hlen := run_le s
    have hstep := run_step hx
    by_cases hxl : x < s.length
    · have hxi : (x : Int) < (s.length : Int) := by omega
      have eg : s.getD x 0 = s[x] := by simp [hxl]
      cases hb : bareB (s.getD x 0) with
      | false =>
        have hall : s.all bareB = false := by
          cases h : s.all bareB with
          | false => rfl
          | true =>
            have := (List.all_eq_true.1 h) s[x] (List.getElem_mem hxl)
            rw [eg, this] at hb; cases hb
        simp +contextual (maxSteps := 4000000) only [↓exT_call G_ref01_Bare_24, ↓exT_callo G_ref01_Bare_24, rbareG_call, rbareG_callo, hxi, hb, hall, go_sem, Nat.reduceAdd, Nat.reduceSub, Nat.reduceMul, Nat.reduceEqDiff, Nat.reduceLeDiff, Nat.reduceLT, Nat.reduceBEq, Int.reduceLE, Int.reduceLT, Int.reduceToNat, Int.reduceNeg, Int.reduceAdd, Int.reduceSub, Int.reduceMul, ↓reduceIte]
      | true =>
        have : x < bareN s := hstep.2 ⟨hxl, by rw [← eg]; exact hb⟩
        simp +contextual (maxSteps := 4000000) only [↓exT_call G_ref01_Bare_24, ↓exT_callo G_ref01_Bare_24, rbareG_call, rbareG_callo, hxi, hb, go_sem, Nat.reduceAdd, Nat.reduceSub, Nat.reduceMul, Nat.reduceEqDiff, Nat.reduceLeDiff, Nat.reduceLT, Nat.reduceBEq, Int.reduceLE, Int.reduceLT, Int.reduceToNat, Int.reduceNeg, Int.reduceAdd, Int.reduceSub, Int.reduceMul, ↓reduceIte]
        exact ⟨by omega, x + 1, by omega, by omega, by omega⟩
    · have hxi : ¬ (x : Int) < (s.length : Int) := by omega
      have hall : s.all bareB = true := (run_eq_len s).1 (by omega)
      simp +contextual (maxSteps := 4000000) only [↓exT_call G_ref01_Bare_24, ↓exT_callo G_ref01_Bare_24, rbareG_call, rbareG_callo, hxi, hall, go_sem, Nat.reduceAdd, Nat.reduceSub, Nat.reduceMul, Nat.reduceEqDiff, Nat.reduceLeDiff, Nat.reduceLT, Nat.reduceBEq, Int.reduceLE, Int.reduceLT, Int.reduceToNat, Int.reduceNeg, Int.reduceAdd, Int.reduceSub, Int.reduceMul, ↓reduceIte]

def digitG : List V → Option V
  | [.c (.s (.int .i64 n))] => if 0 ≤ n ∧ n < 16 then some (.c (.s (.int .u8 ((hexB.getD n.toNat 0).toNat : Int)))) else none
  | _ => none
theorem digitG_call {n : Int} {gt : Bool} {K : V → Prop} : callE digitG [.c (.s (.int .i64 n))] gt K = ((gt = true → 0 ≤ n ∧ n < 16) ∧ bindV (ifV gt (.c (.s (.int .u8 ((hexB.getD n.toNat 0).toNat : Int))))) K) := callE_of rfl
theorem digitG_callo {n : Int} {m : Nat → Option Ab.Obj} {locs : List Nat} {K : V → (Nat → Option Ab.Obj) → Prop} : callO digitG (some [.c (.s (.int .i64 n))]) m locs K = ((0 ≤ n ∧ n < 16) ∧ K (.c (.s (.int .u8 ((hexB.getD n.toNat 0).toNat : Int)))) (sealW m locs (.c (.s (.int .u8 ((hexB.getD n.toNat 0).toNat : Int)))))) := callO_of rfl

def sc_ref01_digit : SC := .seq (
 .reg [
   ⟨some 2, .mv, [.k (.c (.s (.int .u8 0)))], none⟩]) (
 .seq (
  .seq (
   .reg [
     ⟨some 3, .mv, [.t 0], none⟩,
     ⟨some 4, .bin .lss, [.t 3, .k (.c (.s (.int .i64 10)))], none⟩]) (
   .cond (.t 4) (
    .seq (
     .reg [
       ⟨some 5, .mv, [.t 0], none⟩,
       ⟨some 6, .bin .add, [.k (.c (.s (.int .i64 48))), .t 5], none⟩,
       ⟨some 7, .conv .u8, [.t 6], none⟩,
       ⟨some 2, .mv, [.t 7], none⟩]) (
     .ret)) (
    .skip))) (
  .seq (
   .reg [
     ⟨some 8, .mv, [.t 0], none⟩,
     ⟨some 9, .bin .add, [.k (.c (.s (.int .i64 97))), .t 8], none⟩,
     ⟨some 10, .bin .sub, [.t 9, .k (.c (.s (.int .i64 10)))], none⟩,
     ⟨some 11, .conv .u8, [.t 10], none⟩,
     ⟨some 2, .mv, [.t 11], none⟩]) (
   .ret)))
noncomputable def G_ref01_digit : FuncId → Ab.Spec := noS
theorem G_ref01_digit_ok : ∀ f, Contract Try.prog f (G_ref01_digit f) := (noS_ok _)
set_option maxHeartbeats 4000000 in
set_option maxRecDepth 100000 in
set_option linter.unusedSimpArgs false in
set_option linter.unusedVariables false in
theorem contract_ref01_digit : Contract Try.prog 26 (plain digitG) := by
  have hb : ∃ c, Try.f26.body = some c ∧ codeOk 12 c = true ∧ cCode Try.prog c = sc_ref01_digit := ⟨_, rfl, by kernel_rfl, by kernel_rfl⟩
  obtain ⟨c, hb1, hb2, hb3⟩ := hb
  refine contract_of (n := 1) G_ref01_digit_ok hB hD Try.func26 hb1 (by kernel_rfl) hb2 hb3 (rs := [.tmp 2]) (by kernel_rfl) (by decide) ?_ ?_
  · intro args x h
    unfold plain digitG at h
    split at h <;> simp_all
  · intro args r hr
    unfold plain digitG at hr
    split at hr
    case h_2 => cases hr
    rename_i n
    split at hr
    case isFalse => cases hr
    rename_i hc
    simp only [Option.map_some, Option.some.injEq] at hr
    subst hr
    unfold sc_ref01_digit
    obtain ⟨k, rfl⟩ : ∃ k : Nat, n = k := ⟨n.toNat, by omega⟩
    have hk : k < 16 := by omega
    have := (by decide +kernel : ∀ k : Fin 16, ((k.val : Int) < 10 → (48 + (k.val : Int)) % 256 = ((hexB.getD k.val 0).toNat : Int)) ∧ (¬ (k.val : Int) < 10 → (97 + (k.val : Int) - 10) % 256 = ((hexB.getD k.val 0).toNat : Int))) ⟨k, hk⟩
    simp only at this
    simp +contextual (maxSteps := 4000000) only [go_sem, Nat.reduceAdd, Nat.reduceSub, Nat.reduceMul, Nat.reduceEqDiff, Nat.reduceLeDiff, Nat.reduceLT, Nat.reduceBEq, Int.reduceLE, Int.reduceLT, Int.reduceToNat, Int.reduceNeg, Int.reduceAdd, Int.reduceSub, Int.reduceMul, ↓reduceIte]
    all_goals ((repeat' (first | with_reducible apply And.intro | intro)) <;> try omega)

def valueG : List V → Option V
  | [.c (.s (.int .u8 c))] => if 0 ≤ c ∧ c < 256 then some (.c (.s (.int .i64 (hexV (UInt8.ofNat c.toNat))))) else none
  | _ => none
theorem valueG_call {c : Int} {gt : Bool} {K : V → Prop} : callE valueG [.c (.s (.int .u8 c))] gt K = ((gt = true → 0 ≤ c ∧ c < 256) ∧ bindV (ifV gt (.c (.s (.int .i64 (hexV (UInt8.ofNat c.toNat)))))) K) := callE_of rfl
theorem valueG_callo {c : Int} {m : Nat → Option Ab.Obj} {locs : List Nat} {K : V → (Nat → Option Ab.Obj) → Prop} : callO valueG (some [.c (.s (.int .u8 c))]) m locs K = ((0 ≤ c ∧ c < 256) ∧ K (.c (.s (.int .i64 (hexV (UInt8.ofNat c.toNat))))) (sealW m locs (.c (.s (.int .i64 (hexV (UInt8.ofNat c.toNat))))))) := callO_of rfl

def sc_ref01_value : SC := .seq (
 .reg [
   ⟨some 2, .mv, [.k (.c (.s (.int .i64 0)))], none⟩]) (
 .seq (
  .seq (
   .reg [
     ⟨some 3, .mv, [.t 0], none⟩,
     ⟨some 4, .bin .geq, [.t 3, .k (.c (.s (.int .u8 48)))], none⟩,
     ⟨some 5, .mv, [.t 4], none⟩,
     ⟨some 6, .mv, [.t 0], some (5, true)⟩,
     ⟨some 7, .bin .leq, [.t 6, .k (.c (.s (.int .u8 57)))], some (5, true)⟩,
     ⟨some 8, .pick, [.t 5, .t 7, .k (.c (.s (.bool false)))], none⟩]) (
   .cond (.t 8) (
    .seq (
     .reg [
       ⟨some 9, .mv, [.t 0], none⟩,
       ⟨some 10, .bin .sub, [.t 9, .k (.c (.s (.int .u8 48)))], none⟩,
       ⟨some 11, .conv .i64, [.t 10], none⟩,
       ⟨some 2, .mv, [.t 11], none⟩]) (
     .ret)) (
    .skip))) (
  .seq (
   .seq (
    .reg [
      ⟨some 12, .mv, [.t 0], none⟩,
      ⟨some 13, .bin .geq, [.t 12, .k (.c (.s (.int .u8 97)))], none⟩,
      ⟨some 14, .mv, [.t 13], none⟩,
      ⟨some 15, .mv, [.t 0], some (14, true)⟩,
      ⟨some 16, .bin .leq, [.t 15, .k (.c (.s (.int .u8 102)))], some (14, true)⟩,
      ⟨some 17, .pick, [.t 14, .t 16, .k (.c (.s (.bool false)))], none⟩]) (
    .cond (.t 17) (
     .seq (
      .reg [
        ⟨some 18, .mv, [.t 0], none⟩,
        ⟨some 19, .bin .sub, [.t 18, .k (.c (.s (.int .u8 97)))], none⟩,
        ⟨some 20, .conv .i64, [.t 19], none⟩,
        ⟨some 21, .bin .add, [.t 20, .k (.c (.s (.int .i64 10)))], none⟩,
        ⟨some 2, .mv, [.t 21], none⟩]) (
      .ret)) (
     .skip))) (
   .seq (
    .reg [
      ⟨some 2, .mv, [.k (.c (.s (.int .i64 (-1))))], none⟩]) (
    .ret))))
noncomputable def G_ref01_value : FuncId → Ab.Spec := noS
theorem G_ref01_value_ok : ∀ f, Contract Try.prog f (G_ref01_value f) := (noS_ok _)
set_option maxHeartbeats 4000000 in
set_option maxRecDepth 100000 in
set_option linter.unusedSimpArgs false in
set_option linter.unusedVariables false in
theorem contract_ref01_value : Contract Try.prog 27 (plain valueG) := by
  have hb : ∃ c, Try.f27.body = some c ∧ codeOk 22 c = true ∧ cCode Try.prog c = sc_ref01_value := ⟨_, rfl, by kernel_rfl, by kernel_rfl⟩
  obtain ⟨c, hb1, hb2, hb3⟩ := hb
  refine contract_of (n := 1) G_ref01_value_ok hB hD Try.func27 hb1 (by kernel_rfl) hb2 hb3 (rs := [.tmp 2]) (by kernel_rfl) (by decide) ?_ ?_
  · intro args x h
    unfold plain valueG at h
    split at h <;> simp_all
  · intro args r hr
    unfold plain valueG at hr
    split at hr
    case h_2 => cases hr
    rename_i c
    split at hr
    case isFalse => cases hr
    rename_i hc
    simp only [Option.map_some, Option.some.injEq] at hr
    subst hr
    unfold sc_ref01_value
    obtain ⟨x, rfl⟩ := byte_ex hc
    simp +contextual (maxSteps := 4000000) only [go_sem, Nat.reduceAdd, Nat.reduceSub, Nat.reduceMul, Nat.reduceEqDiff, Nat.reduceLeDiff, Nat.reduceLT, Nat.reduceBEq, Int.reduceLE, Int.reduceLT, Int.reduceToNat, Int.reduceNeg, Int.reduceAdd, Int.reduceSub, Int.reduceMul, ↓reduceIte]
    clear hc
    induction x using byte_ind with
    | h n => revert n; decide +kernel

def rquoteG : List V → Option V
  | [.c (.s (.str s))] => if s.length < 1099511627776 then some (.c (.s (.str (quoteT s)))) else none
  | _ => none
theorem rquoteG_call {s : Bs} {gt : Bool} {K : V → Prop} : callE rquoteG [.c (.s (.str s))] gt K = ((gt = true → s.length < 1099511627776) ∧ bindV (ifV gt (.c (.s (.str (quoteT s))))) K) := callE_of rfl
theorem rquoteG_callo {s : Bs} {m : Nat → Option Ab.Obj} {locs : List Nat} {K : V → (Nat → Option Ab.Obj) → Prop} : callO rquoteG (some [.c (.s (.str s))]) m locs K = ((s.length < 1099511627776) ∧ K (.c (.s (.str (quoteT s)))) (sealW m locs (.c (.s (.str (quoteT s)))))) := callO_of rfl

def sc_ref01_Quote : SC := .seq (
 .reg [
   ⟨some 2, .mv, [.k (.c (.s (.str [])))], none⟩]) (
 .seq (
  .seq (
   .reg [
     ⟨some 6, .mv, [.t 0], none⟩,
     ⟨some 7, .call 12, [.t 6], none⟩]) (
   .cond (.t 7) (
    .seq (
     .reg [
       ⟨some 8, .mv, [.t 0], none⟩,
       ⟨some 2, .mv, [.t 8], none⟩]) (
     .ret)) (
    .skip))) (
  .seq (
   .reg [
     ⟨some 9, .bslice 1 1 [.int .u8 0] [0], [.k (.c (.s (.int .u8 34)))], none⟩,
     ⟨some 3, .mv, [.t 9], none⟩]) (
   .seq (
    .seq (
     .reg [
       ⟨some 4, .mv, [.k (.c (.s (.int .i64 0)))], none⟩]) (
     .block 0 (
      .loop (
       .seq (
        .seq (
         .reg [
           ⟨some 10, .mv, [.t 4], none⟩,
           ⟨some 11, .mv, [.t 0], none⟩,
           ⟨some 12, .len true, [.t 11], none⟩,
           ⟨some 13, .bin .lss, [.t 10, .t 12], none⟩]) (
         .cond (.t 13) (
          .skip) (
          .exit 0))) (
        .seq (
         .block 1 (
          .seq (
           .reg [
             ⟨some 16, .mv, [.t 0], none⟩,
             ⟨some 17, .mv, [.t 4], none⟩,
             ⟨some 18, .idx, [.t 16, .t 17], none⟩,
             ⟨some 5, .mv, [.t 18], none⟩]) (
           .seq (
            .reg [
              ⟨some 19, .mv, [.t 5], none⟩,
              ⟨some 20, .bin .eql, [.t 19, .k (.c (.s (.int .u8 34)))], none⟩,
              ⟨some 21, .mv, [.t 20], none⟩,
              ⟨some 22, .mv, [.t 5], some (21, false)⟩,
              ⟨some 23, .bin .eql, [.t 22, .k (.c (.s (.int .u8 92)))], some (21, false)⟩,
              ⟨some 24, .pick, [.t 21, .k (.c (.s (.bool true))), .t 23], none⟩]) (
            .cond (.t 24) (
             .reg [
               ⟨some 25, .mv, [.t 3], none⟩,
               ⟨some 26, .mv, [.t 5], none⟩,
               ⟨some 27, .bslice 1 2 [.int .u8 0] [0, 1], [.k (.c (.s (.int .u8 92))), .t 26], none⟩,
               ⟨some 28, .append false 1 1, [.t 25, .t 27], none⟩,
               ⟨some 3, .mv, [.t 28], none⟩]) (
             .seq (
              .reg [
                ⟨some 29, .mv, [.t 5], none⟩,
                ⟨some 30, .bin .lss, [.t 29, .k (.c (.s (.int .u8 32)))], none⟩,
                ⟨some 31, .mv, [.t 30], none⟩,
                ⟨some 32, .mv, [.t 5], some (31, false)⟩,
                ⟨some 33, .bin .gtr, [.t 32, .k (.c (.s (.int .u8 126)))], some (31, false)⟩,
                ⟨some 34, .pick, [.t 31, .k (.c (.s (.bool true))), .t 33], none⟩]) (
              .cond (.t 34) (
               .reg [
                 ⟨some 35, .mv, [.t 3], none⟩,
                 ⟨some 36, .mv, [.t 5], none⟩,
                 ⟨some 37, .conv .i64, [.t 36], none⟩,
                 ⟨some 38, .bin .quo, [.t 37, .k (.c (.s (.int .i64 16)))], none⟩,
                 ⟨some 39, .call 26, [.t 38], none⟩,
                 ⟨some 40, .mv, [.t 5], none⟩,
                 ⟨some 41, .conv .i64, [.t 40], none⟩,
                 ⟨some 42, .bin .rem, [.t 41, .k (.c (.s (.int .i64 16)))], none⟩,
                 ⟨some 43, .call 26, [.t 42], none⟩,
                 ⟨some 44, .bslice 1 4 [.int .u8 0] [0, 1, 2, 3], [.k (.c (.s (.int .u8 92))), .k (.c (.s (.int .u8 120))), .t 39, .t 43], none⟩,
                 ⟨some 45, .append false 1 1, [.t 35, .t 44], none⟩,
                 ⟨some 3, .mv, [.t 45], none⟩]) (
               .reg [
                 ⟨some 46, .mv, [.t 3], none⟩,
                 ⟨some 47, .mv, [.t 5], none⟩,
                 ⟨some 48, .bslice 1 1 [.int .u8 0] [0], [.t 47], none⟩,
                 ⟨some 49, .append false 1 1, [.t 46, .t 48], none⟩,
                 ⟨some 3, .mv, [.t 49], none⟩]))))))) (
         .reg [
           ⟨some 14, .mv, [.t 4], none⟩,
           ⟨some 15, .bin .add, [.t 14, .k (.c (.s (.int .i64 1)))], none⟩,
           ⟨some 4, .mv, [.t 15], none⟩])))))) (
    .seq (
     .reg [
       ⟨some 50, .mv, [.t 3], none⟩,
       ⟨some 51, .bslice 1 1 [.int .u8 0] [0], [.k (.c (.s (.int .u8 34)))], none⟩,
       ⟨some 52, .append false 1 1, [.t 50, .t 51], none⟩,
       ⟨some 53, .toStr, [.t 52], none⟩,
       ⟨some 2, .mv, [.t 53], none⟩]) (
     .ret)))))
noncomputable def G_ref01_Quote : FuncId → Ab.Spec := addS (addS (noS) 12 (plain rBareG)) 26 (plain digitG)
theorem G_ref01_Quote_ok : ∀ f, Contract Try.prog f (G_ref01_Quote f) := (addS_ok (addS_ok (noS_ok _) contract_ref01_Bare) contract_ref01_digit)
theorem G_ref01_Quote_12 : G_ref01_Quote 12 = plain rBareG := by simp [G_ref01_Quote, addS]
theorem G_ref01_Quote_26 : G_ref01_Quote 26 = plain digitG := by simp [G_ref01_Quote, addS]
set_option maxHeartbeats 4000000 in
set_option maxRecDepth 100000 in
set_option linter.unusedSimpArgs false in
set_option linter.unusedVariables false in
theorem contract_ref01_Quote : Contract Try.prog 15 (plain rquoteG) := by
  have hb : ∃ c, Try.f15.body = some c ∧ codeOk 54 c = true ∧ cCode Try.prog c = sc_ref01_Quote := ⟨_, rfl, by kernel_rfl, by kernel_rfl⟩
  obtain ⟨c, hb1, hb2, hb3⟩ := hb
  refine contract_of (n := 1) G_ref01_Quote_ok hB hD Try.func15 hb1 (by kernel_rfl) hb2 hb3 (rs := [.tmp 2]) (by kernel_rfl) (by decide) ?_ ?_
  · intro args x h
    unfold plain rquoteG at h
    split at h <;> simp_all
  · intro args r hr
    unfold plain rquoteG at hr
    split at hr
    case h_2 => cases hr
    rename_i s
    split at hr
    case isFalse => cases hr
    rename_i hc
    simp only [Option.map_some, Option.some.injEq] at hr
    subst hr
    unfold sc_ref01_Quote
    simp +contextual (maxSteps := 4000000) only [↓exT_call G_ref01_Quote_12, ↓exT_callo G_ref01_Quote_12, rBareG_call, rBareG_callo, ↓exT_call G_ref01_Quote_26, ↓exT_callo G_ref01_Quote_26, digitG_call, digitG_callo, go_sem, Nat.reduceAdd, Nat.reduceSub, Nat.reduceMul, Nat.reduceEqDiff, Nat.reduceLeDiff, Nat.reduceLT, Nat.reduceBEq, Int.reduceLE, Int.reduceLT, Int.reduceToNat, Int.reduceNeg, Int.reduceAdd, Int.reduceSub, Int.reduceMul, ↓reduceIte]
    refine ⟨by omega, fun h => by unfold quoteT; rw [if_pos h], fun h => ?_⟩
    have hq : quoteT s = 34 :: (escs s ++ [34]) := by unfold quoteT; rw [h]; rfl
    refine awp_loopM (α := Nat) (fun i => [(0, .c (.s (.str s))), (3, .c (.own 9 (encs byteE (34 :: escs (s.take i))).length)), (4, .c (.s (.int .i64 i)))]) (fun i => [(9, .row 1 (encs byteE (34 :: escs (s.take i))))]) (fun i => s.length - i) 0 (fun i => i ≤ s.length) (Nat.zero_le _) (Weak.meets ?_) ?_
    · simp +contextual (maxSteps := 4000000) only [↓exT_call G_ref01_Quote_12, ↓exT_callo G_ref01_Quote_12, rBareG_call, rBareG_callo, ↓exT_call G_ref01_Quote_26, ↓exT_callo G_ref01_Quote_26, digitG_call, digitG_callo, go_sem, Nat.reduceAdd, Nat.reduceSub, Nat.reduceMul, Nat.reduceEqDiff, Nat.reduceLeDiff, Nat.reduceLT, Nat.reduceBEq, Int.reduceLE, Int.reduceLT, Int.reduceToNat, Int.reduceNeg, Int.reduceAdd, Int.reduceSub, Int.reduceMul, ↓reduceIte]
      simp [escs, encs, byteE]
    intro x hx
    have hle := escs_len (s.take x)
    simp only [List.length_take] at hle
    by_cases hxl : x < s.length
    · have hxi : (x : Int) < (s.length : Int) := by omega
      generalize hc : s.getD x 0 = c
      have ht : escs (s.take (x + 1)) = escs (s.take x) ++ escB c := by rw [escs_take s x hxl, hc]
      have e1 : ((c.toNat : Int) / 16).toNat = c.toNat / 16 := by omega
      have e2 : ((c.toNat : Int) % 16).toNat = c.toNat % 16 := by omega
      have hcl := c.toNat_lt
      by_cases h1 : c = 34 ∨ c = 92
      · have e : (decide (c = 34) || decide (c = 92)) = true := by simpa using h1
        have he : escB c = [92, c] := by unfold escB; rw [if_pos h1]
        simp +contextual (maxSteps := 4000000) only [↓exT_call G_ref01_Quote_12, ↓exT_callo G_ref01_Quote_12, rBareG_call, rBareG_callo, ↓exT_call G_ref01_Quote_26, ↓exT_callo G_ref01_Quote_26, digitG_call, digitG_callo, hxi, hc, e, go_sem, Nat.reduceAdd, Nat.reduceSub, Nat.reduceMul, Nat.reduceEqDiff, Nat.reduceLeDiff, Nat.reduceLT, Nat.reduceBEq, Int.reduceLE, Int.reduceLT, Int.reduceToNat, Int.reduceNeg, Int.reduceAdd, Int.reduceSub, Int.reduceMul, ↓reduceIte]
        all_goals ((repeat' (first | with_reducible apply And.intro | intro)) <;> try omega)
        refine ⟨x + 1, ?_⟩
        rw [ht, he]
        simp [encs, byteE] <;> omega
      · have h1' : ¬ c = 34 ∧ ¬ c = 92 := ⟨fun h => h1 (.inl h), fun h => h1 (.inr h)⟩
        by_cases h2 : 32 ≤ c ∧ c ≤ 126
        · have h2' : ¬ c < 32 ∧ ¬ 126 < c := ⟨UInt8.not_lt.2 h2.1, UInt8.not_lt.2 h2.2⟩
          have he : escB c = [c] := by unfold escB; rw [if_neg h1, if_pos h2]
          simp +contextual (maxSteps := 4000000) only [↓exT_call G_ref01_Quote_12, ↓exT_callo G_ref01_Quote_12, rBareG_call, rBareG_callo, ↓exT_call G_ref01_Quote_26, ↓exT_callo G_ref01_Quote_26, digitG_call, digitG_callo, hxi, hc, h1'.1, h1'.2, h2'.1, h2'.2, go_sem, Nat.reduceAdd, Nat.reduceSub, Nat.reduceMul, Nat.reduceEqDiff, Nat.reduceLeDiff, Nat.reduceLT, Nat.reduceBEq, Int.reduceLE, Int.reduceLT, Int.reduceToNat, Int.reduceNeg, Int.reduceAdd, Int.reduceSub, Int.reduceMul, ↓reduceIte]
          all_goals ((repeat' (first | with_reducible apply And.intro | intro)) <;> try omega)
          refine ⟨x + 1, ?_⟩
          rw [ht, he]
          simp [encs, byteE] <;> omega
        · have e : (decide (c < 32) || decide (126 < c)) = true := by
            simp only [Bool.or_eq_true, decide_eq_true_eq]
            by_cases h3 : c < 32
            · exact .inl h3
            · exact .inr (UInt8.not_le.1 fun h4 => h2 ⟨UInt8.not_lt.1 h3, h4⟩)
          have he : escB c = [92, 120, hexB.getD (c.toNat / 16) 0, hexB.getD (c.toNat % 16) 0] := by unfold escB; rw [if_neg h1, if_neg h2]
          simp +contextual (maxSteps := 4000000) only [↓exT_call G_ref01_Quote_12, ↓exT_callo G_ref01_Quote_12, rBareG_call, rBareG_callo, ↓exT_call G_ref01_Quote_26, ↓exT_callo G_ref01_Quote_26, digitG_call, digitG_callo, hxi, hc, h1'.1, h1'.2, e, e1, e2, go_sem, Nat.reduceAdd, Nat.reduceSub, Nat.reduceMul, Nat.reduceEqDiff, Nat.reduceLeDiff, Nat.reduceLT, Nat.reduceBEq, Int.reduceLE, Int.reduceLT, Int.reduceToNat, Int.reduceNeg, Int.reduceAdd, Int.reduceSub, Int.reduceMul, ↓reduceIte]
          all_goals ((repeat' (first | with_reducible apply And.intro | intro)) <;> try omega)
          refine ⟨x + 1, ?_⟩
          rw [ht, he]
          simp [encs, byteE] <;> omega
    · have hxi : ¬ (x : Int) < (s.length : Int) := by omega
      have hxe : x = s.length := by omega
      subst hxe
      simp only [List.take_length] at *
      simp +contextual (maxSteps := 4000000) only [↓exT_call G_ref01_Quote_12, ↓exT_callo G_ref01_Quote_12, rBareG_call, rBareG_callo, ↓exT_call G_ref01_Quote_26, ↓exT_callo G_ref01_Quote_26, digitG_call, digitG_callo, hxi, hq, go_sem, Nat.reduceAdd, Nat.reduceSub, Nat.reduceMul, Nat.reduceEqDiff, Nat.reduceLeDiff, Nat.reduceLT, Nat.reduceBEq, Int.reduceLE, Int.reduceLT, Int.reduceToNat, Int.reduceNeg, Int.reduceAdd, Int.reduceSub, Int.reduceMul, ↓reduceIte]
      refine ⟨by omega, ?_⟩
      rfl

def rscanG : List V → Option V
  | [.c (.s (.str t)), .c (.s (.int .i64 a))] => if t.length < 9223372036854775806 then some (.tup [.inl (.s (.int .i64 (scanC t a).1)), .inl (.s (.bool (scanC t a).2))]) else none
  | _ => none
theorem rscanG_call {t : Bs} {a : Int} {gt : Bool} {K : V → Prop} : callE rscanG [.c (.s (.str t)), .c (.s (.int .i64 a))] gt K = ((gt = true → t.length < 9223372036854775806) ∧ bindV (ifV gt (.tup [.inl (.s (.int .i64 (scanC t a).1)), .inl (.s (.bool (scanC t a).2))])) K) := callE_of rfl
theorem rscanG_callo {t : Bs} {a : Int} {m : Nat → Option Ab.Obj} {locs : List Nat} {K : V → (Nat → Option Ab.Obj) → Prop} : callO rscanG (some [.c (.s (.str t)), .c (.s (.int .i64 a))]) m locs K = ((t.length < 9223372036854775806) ∧ K (.tup [.inl (.s (.int .i64 (scanC t a).1)), .inl (.s (.bool (scanC t a).2))]) (sealW m locs (.tup [.inl (.s (.int .i64 (scanC t a).1)), .inl (.s (.bool (scanC t a).2))]))) := callO_of rfl

theorem run_at {t : Bs} {n i : Nat} (h1 : n ≤ i) (h2 : i ≤ n + bareN (t.drop n)) : (i < t.length ∧ bareB (t.getD i 0) = true) ↔ i < n + bareN (t.drop n) := by
  have := run_step (s := t.drop n) (i := i - n) (by omega)
  have e : i < n + bareN (t.drop n) ↔ i - n < bareN (t.drop n) := by omega
  rw [e, this]
  simp only [List.length_drop, List.getElem_drop]
  constructor
  · rintro ⟨h3, h4⟩
    refine ⟨by omega, ?_⟩
    have : n + (i - n) = i := by omega
    simp only [this]
    simpa [h3] using h4
  · rintro ⟨h3, h4⟩
    have e2 : n + (i - n) = i := by omega
    have h5 : i < t.length := by omega
    simp only [e2] at h4
    exact ⟨h5, by simpa [h5] using h4⟩
def sc_ref01_Scan : SC := .seq (
 .reg [
   ⟨some 4, .mv, [.k (.c (.s (.int .i64 0)))], none⟩,
   ⟨some 5, .mv, [.k (.c (.s (.bool false)))], none⟩]) (
 .seq (
  .seq (
   .reg [
     ⟨some 9, .mv, [.t 1], none⟩,
     ⟨some 10, .bin .lss, [.t 9, .k (.c (.s (.int .i64 0)))], none⟩,
     ⟨some 11, .mv, [.t 10], none⟩,
     ⟨some 12, .mv, [.t 1], some (11, false)⟩,
     ⟨some 13, .mv, [.t 0], some (11, false)⟩,
     ⟨some 14, .len true, [.t 13], some (11, false)⟩,
     ⟨some 15, .bin .geq, [.t 12, .t 14], some (11, false)⟩,
     ⟨some 16, .pick, [.t 11, .k (.c (.s (.bool true))), .t 15], none⟩]) (
   .cond (.t 16) (
    .seq (
     .reg [
       ⟨some 4, .mv, [.k (.c (.s (.int .i64 0)))], none⟩,
       ⟨some 5, .mv, [.k (.c (.s (.bool false)))], none⟩]) (
     .ret)) (
    .skip))) (
  .seq (
   .seq (
    .reg [
      ⟨some 17, .mv, [.t 0], none⟩,
      ⟨some 18, .mv, [.t 1], none⟩,
      ⟨some 19, .idx, [.t 17, .t 18], none⟩,
      ⟨some 20, .bin .neq, [.t 19, .k (.c (.s (.int .u8 34)))], none⟩]) (
    .cond (.t 20) (
     .seq (
      .reg [
        ⟨some 21, .mv, [.t 1], none⟩,
        ⟨some 6, .mv, [.t 21], none⟩]) (
      .seq (
       .block 0 (
        .loop (
         .seq (
          .seq (
           .reg [
             ⟨some 22, .mv, [.t 6], none⟩,
             ⟨some 23, .mv, [.t 0], none⟩,
             ⟨some 24, .len true, [.t 23], none⟩,
             ⟨some 25, .bin .lss, [.t 22, .t 24], none⟩,
             ⟨some 26, .mv, [.t 25], none⟩,
             ⟨some 27, .mv, [.t 0], some (26, true)⟩,
             ⟨some 28, .mv, [.t 6], some (26, true)⟩,
             ⟨some 29, .idx, [.t 27, .t 28], some (26, true)⟩,
             ⟨some 30, .call 24, [.t 29], some (26, true)⟩,
             ⟨some 31, .pick, [.t 26, .t 30, .k (.c (.s (.bool false)))], none⟩]) (
           .cond (.t 31) (
            .skip) (
            .exit 0))) (
          .block 1 (
           .reg [
             ⟨some 32, .mv, [.t 6], none⟩,
             ⟨some 33, .bin .add, [.t 32, .k (.c (.s (.int .i64 1)))], none⟩,
             ⟨some 6, .mv, [.t 33], none⟩]))))) (
       .seq (
        .seq (
         .reg [
           ⟨some 34, .mv, [.t 6], none⟩,
           ⟨some 35, .mv, [.t 1], none⟩,
           ⟨some 36, .bin .eql, [.t 34, .t 35], none⟩]) (
         .cond (.t 36) (
          .seq (
           .reg [
             ⟨some 4, .mv, [.k (.c (.s (.int .i64 0)))], none⟩,
             ⟨some 5, .mv, [.k (.c (.s (.bool false)))], none⟩]) (
           .ret)) (
          .skip))) (
        .seq (
         .reg [
           ⟨some 37, .mv, [.t 6], none⟩,
           ⟨some 4, .mv, [.t 37], none⟩,
           ⟨some 5, .mv, [.k (.c (.s (.bool true)))], none⟩]) (
         .ret))))) (
     .skip))) (
   .seq (
    .reg [
      ⟨some 7, .mv, [.k (.c (.s (.bool false)))], none⟩]) (
    .seq (
     .seq (
      .reg [
        ⟨some 38, .mv, [.t 1], none⟩,
        ⟨some 39, .bin .add, [.t 38, .k (.c (.s (.int .i64 1)))], none⟩,
        ⟨some 8, .mv, [.t 39], none⟩]) (
      .block 2 (
       .loop (
        .seq (
         .seq (
          .reg [
            ⟨some 40, .mv, [.t 8], none⟩,
            ⟨some 41, .mv, [.t 0], none⟩,
            ⟨some 42, .len true, [.t 41], none⟩,
            ⟨some 43, .bin .lss, [.t 40, .t 42], none⟩]) (
          .cond (.t 43) (
           .skip) (
           .exit 2))) (
         .seq (
          .block 3 (
           .seq (
            .reg [
              ⟨some 46, .mv, [.t 7], none⟩]) (
            .cond (.t 46) (
             .reg [
               ⟨some 7, .mv, [.k (.c (.s (.bool false)))], none⟩]) (
             .seq (
              .reg [
                ⟨some 47, .mv, [.t 0], none⟩,
                ⟨some 48, .mv, [.t 8], none⟩,
                ⟨some 49, .idx, [.t 47, .t 48], none⟩,
                ⟨some 50, .bin .eql, [.t 49, .k (.c (.s (.int .u8 92)))], none⟩]) (
              .cond (.t 50) (
               .reg [
                 ⟨some 7, .mv, [.k (.c (.s (.bool true)))], none⟩]) (
               .seq (
                .reg [
                  ⟨some 51, .mv, [.t 0], none⟩,
                  ⟨some 52, .mv, [.t 8], none⟩,
                  ⟨some 53, .idx, [.t 51, .t 52], none⟩,
                  ⟨some 54, .bin .eql, [.t 53, .k (.c (.s (.int .u8 34)))], none⟩]) (
                .cond (.t 54) (
                 .seq (
                  .reg [
                    ⟨some 55, .mv, [.t 8], none⟩,
                    ⟨some 56, .bin .add, [.t 55, .k (.c (.s (.int .i64 1)))], none⟩,
                    ⟨some 4, .mv, [.t 56], none⟩,
                    ⟨some 5, .mv, [.k (.c (.s (.bool true)))], none⟩]) (
                  .ret)) (
                 .skip)))))))) (
          .reg [
            ⟨some 44, .mv, [.t 8], none⟩,
            ⟨some 45, .bin .add, [.t 44, .k (.c (.s (.int .i64 1)))], none⟩,
            ⟨some 8, .mv, [.t 45], none⟩])))))) (
     .seq (
      .reg [
        ⟨some 4, .mv, [.k (.c (.s (.int .i64 0)))], none⟩,
        ⟨some 5, .mv, [.k (.c (.s (.bool false)))], none⟩]) (
      .ret))))))
noncomputable def G_ref01_Scan : FuncId → Ab.Spec := addS (noS) 24 (plain rbareG)
theorem G_ref01_Scan_ok : ∀ f, Contract Try.prog f (G_ref01_Scan f) := (addS_ok (noS_ok _) contract_ref01_bare)
theorem G_ref01_Scan_24 : G_ref01_Scan 24 = plain rbareG := by simp [G_ref01_Scan, addS]
set_option maxHeartbeats 4000000 in
set_option maxRecDepth 100000 in
set_option linter.unusedSimpArgs false in
set_option linter.unusedVariables false in
theorem contract_ref01_Scan : Contract Try.prog 17 (plain rscanG) := by
  have hb : ∃ c, Try.f17.body = some c ∧ codeOk 57 c = true ∧ cCode Try.prog c = sc_ref01_Scan := ⟨_, rfl, by kernel_rfl, by kernel_rfl⟩
  obtain ⟨c, hb1, hb2, hb3⟩ := hb
  refine contract_of (n := 2) G_ref01_Scan_ok hB hD Try.func17 hb1 (by kernel_rfl) hb2 hb3 (rs := [.tmp 4, .tmp 5]) (by kernel_rfl) (by decide) ?_ ?_
  · intro args x h
    unfold plain rscanG at h
    split at h <;> simp_all
  · intro args r hr
    unfold plain rscanG at hr
    split at hr
    case h_2 => cases hr
    rename_i t a
    split at hr
    case isFalse => cases hr
    rename_i hc
    simp only [Option.map_some, Option.some.injEq] at hr
    subst hr
    unfold sc_ref01_Scan
    by_cases ha : 0 ≤ a ∧ a < (t.length : Int)
    case neg =>
      have e : (decide (a < 0) || decide ((t.length : Int) ≤ a)) = true := by simp; omega
      have hs : scanC t a = (0, false) := by unfold scanC; rw [if_neg ha]
      simp +contextual (maxSteps := 4000000) only [↓exT_call G_ref01_Scan_24, ↓exT_callo G_ref01_Scan_24, rbareG_call, rbareG_callo, e, hs, ha, go_sem, Nat.reduceAdd, Nat.reduceSub, Nat.reduceMul, Nat.reduceEqDiff, Nat.reduceLeDiff, Nat.reduceLT, Nat.reduceBEq, Int.reduceLE, Int.reduceLT, Int.reduceToNat, Int.reduceNeg, Int.reduceAdd, Int.reduceSub, Int.reduceMul, ↓reduceIte]
    obtain ⟨n, rfl⟩ : ∃ n : Nat, a = n := ⟨a.toNat, by omega⟩
    have hn : n < t.length := by omega
    have e : (decide ((n : Int) < 0) || decide ((t.length : Int) ≤ n)) = false := by simp; omega
    have hs := scanC_at hn
    have hr := run_le (t.drop n)
    simp only [List.length_drop] at hr
    by_cases h34 : t.getD n 0 = 34
    case neg =>
      rw [if_neg h34] at hs
      simp +contextual (maxSteps := 4000000) only [↓exT_call G_ref01_Scan_24, ↓exT_callo G_ref01_Scan_24, rbareG_call, rbareG_callo, e, h34, go_sem, Nat.reduceAdd, Nat.reduceSub, Nat.reduceMul, Nat.reduceEqDiff, Nat.reduceLeDiff, Nat.reduceLT, Nat.reduceBEq, Int.reduceLE, Int.reduceLT, Int.reduceToNat, Int.reduceNeg, Int.reduceAdd, Int.reduceSub, Int.reduceMul, ↓reduceIte]
      all_goals ((repeat' (first | with_reducible apply And.intro | intro)) <;> try omega)
      refine awp_loopM (α := Nat) (fun i => [(0, .c (.s (.str t))), (1, .c (.s (.int .i64 n))), (6, .c (.s (.int .i64 i)))]) (fun _ => []) (fun i => t.length - i) n (fun i => n ≤ i ∧ i ≤ n + bareN (t.drop n)) ⟨by omega, by omega⟩ (Weak.meets ?_) ?_
      · simp +contextual (maxSteps := 4000000) only [↓exT_call G_ref01_Scan_24, ↓exT_callo G_ref01_Scan_24, rbareG_call, rbareG_callo, go_sem, Nat.reduceAdd, Nat.reduceSub, Nat.reduceMul, Nat.reduceEqDiff, Nat.reduceLeDiff, Nat.reduceLT, Nat.reduceBEq, Int.reduceLE, Int.reduceLT, Int.reduceToNat, Int.reduceNeg, Int.reduceAdd, Int.reduceSub, Int.reduceMul, ↓reduceIte]
      rintro x ⟨hx1, hx2⟩
      have hat := run_at hx1 hx2
      by_cases hb : x < n + bareN (t.drop n)
      · obtain ⟨hxl, hbb⟩ := hat.2 hb
        have hxi : (x : Int) < (t.length : Int) := by omega
        simp +contextual (maxSteps := 4000000) only [↓exT_call G_ref01_Scan_24, ↓exT_callo G_ref01_Scan_24, rbareG_call, rbareG_callo, hxi, hbb, go_sem, Nat.reduceAdd, Nat.reduceSub, Nat.reduceMul, Nat.reduceEqDiff, Nat.reduceLeDiff, Nat.reduceLT, Nat.reduceBEq, Int.reduceLE, Int.reduceLT, Int.reduceToNat, Int.reduceNeg, Int.reduceAdd, Int.reduceSub, Int.reduceMul, ↓reduceIte]
        exact ⟨by omega, x + 1, ⟨by omega, by omega⟩, by omega, by omega⟩
      · have hxe : x = n + bareN (t.drop n) := by omega
        have hbb : (decide ((x : Int) < (t.length : Int)) && bareB (t.getD x 0)) = false := by
          cases h : (decide ((x : Int) < (t.length : Int)) && bareB (t.getD x 0)) with
          | false => rfl
          | true =>
            simp only [Bool.and_eq_true, decide_eq_true_eq] at h
            exact absurd (hat.1 ⟨by omega, h.2⟩) hb
        by_cases h0 : bareN (t.drop n) = 0
        · rw [if_pos h0] at hs
          obtain rfl : x = n := by omega
          simp +contextual (maxSteps := 4000000) only [↓exT_call G_ref01_Scan_24, ↓exT_callo G_ref01_Scan_24, rbareG_call, rbareG_callo, hbb, hs, go_sem, Nat.reduceAdd, Nat.reduceSub, Nat.reduceMul, Nat.reduceEqDiff, Nat.reduceLeDiff, Nat.reduceLT, Nat.reduceBEq, Int.reduceLE, Int.reduceLT, Int.reduceToNat, Int.reduceNeg, Int.reduceAdd, Int.reduceSub, Int.reduceMul, ↓reduceIte]
          all_goals ((repeat' (first | with_reducible apply And.intro | intro)) <;> try omega)
        · rw [if_neg h0] at hs
          have hxn : ¬ (x : Int) = (n : Int) := by omega
          simp +contextual (maxSteps := 4000000) only [↓exT_call G_ref01_Scan_24, ↓exT_callo G_ref01_Scan_24, rbareG_call, rbareG_callo, hbb, hs, hxn, go_sem, Nat.reduceAdd, Nat.reduceSub, Nat.reduceMul, Nat.reduceEqDiff, Nat.reduceLeDiff, Nat.reduceLT, Nat.reduceBEq, Int.reduceLE, Int.reduceLT, Int.reduceToNat, Int.reduceNeg, Int.reduceAdd, Int.reduceSub, Int.reduceMul, ↓reduceIte]
          all_goals ((repeat' (first | with_reducible apply And.intro | intro)) <;> try omega)
    rw [if_pos h34] at hs
    simp +contextual (maxSteps := 4000000) only [↓exT_call G_ref01_Scan_24, ↓exT_callo G_ref01_Scan_24, rbareG_call, rbareG_callo, e, h34, go_sem, Nat.reduceAdd, Nat.reduceSub, Nat.reduceMul, Nat.reduceEqDiff, Nat.reduceLeDiff, Nat.reduceLT, Nat.reduceBEq, Int.reduceLE, Int.reduceLT, Int.reduceToNat, Int.reduceNeg, Int.reduceAdd, Int.reduceSub, Int.reduceMul, ↓reduceIte]
    all_goals ((repeat' (first | with_reducible apply And.intro | intro)) <;> try omega)
    refine awp_loopM (α := Nat × Bool) (fun y => [(0, .c (.s (.str t))), (7, .c (.s (.bool y.2))), (8, .c (.s (.int .i64 y.1)))]) (fun _ => []) (fun y => t.length - y.1) (n + 1, false) (fun y => y.1 ≤ t.length ∧ (scanQ (t.drop (n + 1))).map (n + 1 + ·) = if y.2 then (scanQ (t.drop (y.1 + 1))).map (y.1 + 1 + ·) else (scanQ (t.drop y.1)).map (y.1 + ·)) ⟨by simp; omega, rfl⟩ (Weak.meets ?_) ?_
    · simp +contextual (maxSteps := 4000000) only [↓exT_call G_ref01_Scan_24, ↓exT_callo G_ref01_Scan_24, rbareG_call, rbareG_callo, go_sem, Nat.reduceAdd, Nat.reduceSub, Nat.reduceMul, Nat.reduceEqDiff, Nat.reduceLeDiff, Nat.reduceLT, Nat.reduceBEq, Int.reduceLE, Int.reduceLT, Int.reduceToNat, Int.reduceNeg, Int.reduceAdd, Int.reduceSub, Int.reduceMul, ↓reduceIte]
      simp
    rintro ⟨x, b⟩ ⟨hx1, hx2⟩
    simp only at hx1 hx2
    by_cases hxl : x < t.length
    · have ed : t.drop x = t.getD x 0 :: t.drop (x + 1) := by rw [List.drop_eq_getElem_cons hxl]; simp [hxl]
      have hxi : (x : Int) < (t.length : Int) := by omega
      cases b with
      | true =>
        simp only [if_true] at hx2
        simp +contextual (maxSteps := 4000000) only [↓exT_call G_ref01_Scan_24, ↓exT_callo G_ref01_Scan_24, rbareG_call, rbareG_callo, hxi, go_sem, Nat.reduceAdd, Nat.reduceSub, Nat.reduceMul, Nat.reduceEqDiff, Nat.reduceLeDiff, Nat.reduceLT, Nat.reduceBEq, Int.reduceLE, Int.reduceLT, Int.reduceToNat, Int.reduceNeg, Int.reduceAdd, Int.reduceSub, Int.reduceMul, ↓reduceIte]
        exact ⟨by omega, (x + 1, false), ⟨by simp; omega, by simpa using hx2⟩, by simp; omega, rfl, by simp⟩
      | false =>
        simp only [Bool.false_eq_true, if_false] at hx2
        have hfin : scanC t n = (match (scanQ (t.drop x)).map (x + ·) with
          | some k => ((k : Int), true)
          | none => (0, false)) := by
          rw [hs, ← hx2]
          cases scanQ (t.drop (n + 1)) <;> rfl
        by_cases h92 : t.getD x 0 = 92
        · simp +contextual (maxSteps := 4000000) only [↓exT_call G_ref01_Scan_24, ↓exT_callo G_ref01_Scan_24, rbareG_call, rbareG_callo, hxi, h92, go_sem, Nat.reduceAdd, Nat.reduceSub, Nat.reduceMul, Nat.reduceEqDiff, Nat.reduceLeDiff, Nat.reduceLT, Nat.reduceBEq, Int.reduceLE, Int.reduceLT, Int.reduceToNat, Int.reduceNeg, Int.reduceAdd, Int.reduceSub, Int.reduceMul, ↓reduceIte]
          refine ⟨by omega, (x + 1, true), ⟨by simp; omega, ?_⟩, by simp; omega, rfl, by simp⟩
          simp only [if_true]
          rw [hx2, ed, h92]
          by_cases hl2 : x + 1 < t.length
          · have ed2 : t.drop (x + 1) = t.getD (x + 1) 0 :: t.drop (x + 2) := by rw [List.drop_eq_getElem_cons hl2]; simp [hl2]
            rw [ed2, scanQ_back]
            cases scanQ (t.drop (x + 2)) with
            | none => rfl
            | some k => simp; omega
          · have e3 : t.drop (x + 1) = [] := List.drop_eq_nil_of_le (by omega)
            have e4 : t.drop (x + 1 + 1) = [] := List.drop_eq_nil_of_le (by omega)
            rw [e3, e4, scanQ_back1, scanQ_nil]
            rfl
        · by_cases h34' : t.getD x 0 = 34
          · have : scanQ (t.drop x) = some 1 := by rw [ed, scanQ_cons _ _ h92, if_pos h34']
            rw [this] at hfin
            simp only [Option.map_some] at hfin
            simp +contextual (maxSteps := 4000000) only [↓exT_call G_ref01_Scan_24, ↓exT_callo G_ref01_Scan_24, rbareG_call, rbareG_callo, hxi, h92, h34', hfin, go_sem, Nat.reduceAdd, Nat.reduceSub, Nat.reduceMul, Nat.reduceEqDiff, Nat.reduceLeDiff, Nat.reduceLT, Nat.reduceBEq, Int.reduceLE, Int.reduceLT, Int.reduceToNat, Int.reduceNeg, Int.reduceAdd, Int.reduceSub, Int.reduceMul, ↓reduceIte]
            simp; omega
          · simp +contextual (maxSteps := 4000000) only [↓exT_call G_ref01_Scan_24, ↓exT_callo G_ref01_Scan_24, rbareG_call, rbareG_callo, hxi, h92, h34', go_sem, Nat.reduceAdd, Nat.reduceSub, Nat.reduceMul, Nat.reduceEqDiff, Nat.reduceLeDiff, Nat.reduceLT, Nat.reduceBEq, Int.reduceLE, Int.reduceLT, Int.reduceToNat, Int.reduceNeg, Int.reduceAdd, Int.reduceSub, Int.reduceMul, ↓reduceIte]
            refine ⟨by omega, (x + 1, false), ⟨by simp; omega, ?_⟩, by simp; omega, rfl, by simp⟩
            simp only [Bool.false_eq_true, if_false]
            rw [hx2, ed, scanQ_cons _ _ h92, if_neg h34']
            cases scanQ (t.drop (x + 1)) with
            | none => rfl
            | some k => simp; omega
    · have hxi : ¬ (x : Int) < (t.length : Int) := by omega
      have e3 : t.drop x = [] := List.drop_eq_nil_of_le (by omega)
      have e4 : t.drop (x + 1) = [] := List.drop_eq_nil_of_le (by omega)
      have hfin : scanC t n = (0, false) := by
        rw [hs]
        rw [e3, e4, scanQ_nil] at hx2
        have : scanQ (t.drop (n + 1)) = none := by
          cases h : scanQ (t.drop (n + 1)) with
          | none => rfl
          | some k => rw [h] at hx2; cases b <;> simp at hx2
        rw [this]
      simp +contextual (maxSteps := 4000000) only [↓exT_call G_ref01_Scan_24, ↓exT_callo G_ref01_Scan_24, rbareG_call, rbareG_callo, hxi, hfin, go_sem, Nat.reduceAdd, Nat.reduceSub, Nat.reduceMul, Nat.reduceEqDiff, Nat.reduceLeDiff, Nat.reduceLT, Nat.reduceBEq, Int.reduceLE, Int.reduceLT, Int.reduceToNat, Int.reduceNeg, Int.reduceAdd, Int.reduceSub, Int.reduceMul, ↓reduceIte]

def runqG : List V → Option V
  | [.c (.s (.str t))] => if t.length < 1099511627776 then some (.tup [.inl (.s (.str (unquoteT t).1)), .inl (.s (.int .i64 (unquoteT t).2))]) else none
  | _ => none
theorem runqG_call {t : Bs} {gt : Bool} {K : V → Prop} : callE runqG [.c (.s (.str t))] gt K = ((gt = true → t.length < 1099511627776) ∧ bindV (ifV gt (.tup [.inl (.s (.str (unquoteT t).1)), .inl (.s (.int .i64 (unquoteT t).2))])) K) := callE_of rfl
theorem runqG_callo {t : Bs} {m : Nat → Option Ab.Obj} {locs : List Nat} {K : V → (Nat → Option Ab.Obj) → Prop} : callO runqG (some [.c (.s (.str t))]) m locs K = ((t.length < 1099511627776) ∧ K (.tup [.inl (.s (.str (unquoteT t).1)), .inl (.s (.int .i64 (unquoteT t).2))]) (sealW m locs (.tup [.inl (.s (.str (unquoteT t).1)), .inl (.s (.int .i64 (unquoteT t).2))]))) := callO_of rfl

def sc_ref01_Unquote : SC := .seq (
 .reg [
   ⟨some 2, .mv, [.k (.c (.s (.str [])))], none⟩,
   ⟨some 3, .mv, [.k (.c (.s (.int .i64 0)))], none⟩]) (
 .seq (
  .seq (
   .reg [
     ⟨some 8, .mv, [.t 0], none⟩,
     ⟨some 9, .len true, [.t 8], none⟩,
     ⟨some 10, .bin .lss, [.t 9, .k (.c (.s (.int .i64 2)))], none⟩,
     ⟨some 11, .mv, [.t 10], none⟩,
     ⟨some 12, .mv, [.t 0], some (11, false)⟩,
     ⟨some 13, .idx, [.t 12, .k (.c (.s (.int .i64 0)))], some (11, false)⟩,
     ⟨some 14, .bin .neq, [.t 13, .k (.c (.s (.int .u8 34)))], some (11, false)⟩,
     ⟨some 15, .pick, [.t 11, .k (.c (.s (.bool true))), .t 14], none⟩,
     ⟨some 16, .mv, [.t 15], none⟩,
     ⟨some 17, .mv, [.t 0], some (16, false)⟩,
     ⟨some 18, .mv, [.t 0], some (16, false)⟩,
     ⟨some 19, .len true, [.t 18], some (16, false)⟩,
     ⟨some 20, .bin .sub, [.t 19, .k (.c (.s (.int .i64 1)))], some (16, false)⟩,
     ⟨some 21, .idx, [.t 17, .t 20], some (16, false)⟩,
     ⟨some 22, .bin .neq, [.t 21, .k (.c (.s (.int .u8 34)))], some (16, false)⟩,
     ⟨some 23, .pick, [.t 16, .k (.c (.s (.bool true))), .t 22], none⟩]) (
   .cond (.t 23) (
    .seq (
     .seq (
      .reg [
        ⟨some 24, .mv, [.t 0], none⟩,
        ⟨some 25, .call 12, [.t 24], none⟩,
        ⟨some 26, .not, [.t 25], none⟩]) (
      .cond (.t 26) (
       .seq (
        .reg [
          ⟨some 2, .mv, [.k (.c (.s (.str [])))], none⟩,
          ⟨some 3, .mv, [.k (.c (.s (.int .i64 2)))], none⟩]) (
        .ret)) (
       .skip))) (
     .seq (
      .seq (
       .reg [
         ⟨some 27, .mv, [.t 0], none⟩,
         ⟨some 28, .len true, [.t 27], none⟩,
         ⟨some 29, .bin .gtr, [.t 28, .k (.c (.s (.int .i64 40)))], none⟩]) (
       .cond (.t 29) (
        .seq (
         .reg [
           ⟨some 2, .mv, [.k (.c (.s (.str [])))], none⟩,
           ⟨some 3, .mv, [.k (.c (.s (.int .i64 5)))], none⟩]) (
         .ret)) (
        .skip))) (
      .seq (
       .reg [
         ⟨some 30, .mv, [.t 0], none⟩,
         ⟨some 2, .mv, [.t 30], none⟩,
         ⟨some 3, .mv, [.k (.c (.s (.int .i64 0)))], none⟩]) (
       .ret)))) (
    .skip))) (
  .seq (
   .reg [
     ⟨some 4, .mv, [.k (.c (.s (.list 0 [] true)))], none⟩]) (
   .seq (
    .seq (
     .reg [
       ⟨some 5, .mv, [.k (.c (.s (.int .i64 1)))], none⟩]) (
     .block 0 (
      .loop (
       .seq (
        .seq (
         .reg [
           ⟨some 31, .mv, [.t 5], none⟩,
           ⟨some 32, .mv, [.t 0], none⟩,
           ⟨some 33, .len true, [.t 32], none⟩,
           ⟨some 34, .bin .sub, [.t 33, .k (.c (.s (.int .i64 1)))], none⟩,
           ⟨some 35, .bin .lss, [.t 31, .t 34], none⟩]) (
         .cond (.t 35) (
          .skip) (
          .exit 0))) (
        .seq (
         .block 1 (
          .seq (
           .reg [
             ⟨some 38, .mv, [.t 0], none⟩,
             ⟨some 39, .mv, [.t 5], none⟩,
             ⟨some 40, .idx, [.t 38, .t 39], none⟩,
             ⟨some 6, .mv, [.t 40], none⟩]) (
           .seq (
            .seq (
             .reg [
               ⟨some 41, .mv, [.t 6], none⟩,
               ⟨some 42, .bin .lss, [.t 41, .k (.c (.s (.int .u8 32)))], none⟩,
               ⟨some 43, .mv, [.t 42], none⟩,
               ⟨some 44, .mv, [.t 6], some (43, false)⟩,
               ⟨some 45, .bin .gtr, [.t 44, .k (.c (.s (.int .u8 126)))], some (43, false)⟩,
               ⟨some 46, .pick, [.t 43, .k (.c (.s (.bool true))), .t 45], none⟩,
               ⟨some 47, .mv, [.t 46], none⟩,
               ⟨some 48, .mv, [.t 6], some (47, false)⟩,
               ⟨some 49, .bin .eql, [.t 48, .k (.c (.s (.int .u8 34)))], some (47, false)⟩,
               ⟨some 50, .pick, [.t 47, .k (.c (.s (.bool true))), .t 49], none⟩]) (
             .cond (.t 50) (
              .seq (
               .reg [
                 ⟨some 2, .mv, [.k (.c (.s (.str [])))], none⟩,
                 ⟨some 3, .mv, [.k (.c (.s (.int .i64 2)))], none⟩]) (
               .ret)) (
              .skip))) (
            .seq (
             .seq (
              .reg [
                ⟨some 51, .mv, [.t 6], none⟩,
                ⟨some 52, .bin .neq, [.t 51, .k (.c (.s (.int .u8 92)))], none⟩]) (
              .cond (.t 52) (
               .seq (
                .reg [
                  ⟨some 53, .mv, [.t 4], none⟩,
                  ⟨some 54, .mv, [.t 6], none⟩,
                  ⟨some 55, .bslice 1 1 [.int .u8 0] [0], [.t 54], none⟩,
                  ⟨some 56, .append false 1 1, [.t 53, .t 55], none⟩,
                  ⟨some 4, .mv, [.t 56], none⟩]) (
                .exit 1)) (
               .skip))) (
             .seq (
              .reg [
                ⟨some 57, .mv, [.t 0], none⟩,
                ⟨some 58, .mv, [.t 5], none⟩,
                ⟨some 59, .bin .add, [.t 58, .k (.c (.s (.int .i64 1)))], none⟩,
                ⟨some 60, .mv, [.t 0], none⟩,
                ⟨some 61, .len true, [.t 60], none⟩,
                ⟨some 62, .bin .sub, [.t 61, .k (.c (.s (.int .i64 1)))], none⟩,
                ⟨some 63, .slcS true true, [.t 57, .t 59, .t 62], none⟩,
                ⟨some 7, .mv, [.t 63], none⟩]) (
              .seq (
               .seq (
                .reg [
                  ⟨some 64, .mv, [.t 7], none⟩,
                  ⟨some 65, .len true, [.t 64], none⟩,
                  ⟨some 66, .bin .gtr, [.t 65, .k (.c (.s (.int .i64 0)))], none⟩,
                  ⟨some 67, .mv, [.t 66], none⟩,
                  ⟨some 68, .mv, [.t 7], some (67, true)⟩,
                  ⟨some 69, .idx, [.t 68, .k (.c (.s (.int .i64 0)))], some (67, true)⟩,
                  ⟨some 70, .bin .eql, [.t 69, .k (.c (.s (.int .u8 34)))], some (67, true)⟩,
                  ⟨some 71, .mv, [.t 70], some (67, true)⟩,
                  ⟨some 72, .mv, [.t 7], some (71, false)⟩,
                  ⟨some 73, .idx, [.t 72, .k (.c (.s (.int .i64 0)))], some (71, false)⟩,
                  ⟨some 74, .bin .eql, [.t 73, .k (.c (.s (.int .u8 92)))], some (71, false)⟩,
                  ⟨some 75, .pick, [.t 71, .k (.c (.s (.bool true))), .t 74], some (67, true)⟩,
                  ⟨some 76, .pick, [.t 67, .t 75, .k (.c (.s (.bool false)))], none⟩]) (
                .cond (.t 76) (
                 .seq (
                  .reg [
                    ⟨some 77, .mv, [.t 4], none⟩,
                    ⟨some 78, .mv, [.t 7], none⟩,
                    ⟨some 79, .idx, [.t 78, .k (.c (.s (.int .i64 0)))], none⟩,
                    ⟨some 80, .bslice 1 1 [.int .u8 0] [0], [.t 79], none⟩,
                    ⟨some 81, .append false 1 1, [.t 77, .t 80], none⟩,
                    ⟨some 4, .mv, [.t 81], none⟩]) (
                  .seq (
                   .reg [
                     ⟨some 82, .mv, [.t 5], none⟩,
                     ⟨some 83, .bin .add, [.t 82, .k (.c (.s (.int .i64 1)))], none⟩,
                     ⟨some 5, .mv, [.t 83], none⟩]) (
                   .exit 1))) (
                 .skip))) (
               .seq (
                .seq (
                 .reg [
                   ⟨some 84, .mv, [.t 7], none⟩,
                   ⟨some 85, .len true, [.t 84], none⟩,
                   ⟨some 86, .bin .lss, [.t 85, .k (.c (.s (.int .i64 3)))], none⟩,
                   ⟨some 87, .mv, [.t 86], none⟩,
                   ⟨some 88, .mv, [.t 7], some (87, false)⟩,
                   ⟨some 89, .idx, [.t 88, .k (.c (.s (.int .i64 0)))], some (87, false)⟩,
                   ⟨some 90, .bin .neq, [.t 89, .k (.c (.s (.int .u8 120)))], some (87, false)⟩,
                   ⟨some 91, .pick, [.t 87, .k (.c (.s (.bool true))), .t 90], none⟩,
                   ⟨some 92, .mv, [.t 91], none⟩,
                   ⟨some 93, .mv, [.t 7], some (92, false)⟩,
                   ⟨some 94, .idx, [.t 93, .k (.c (.s (.int .i64 1)))], some (92, false)⟩,
                   ⟨some 95, .call 27, [.t 94], some (92, false)⟩,
                   ⟨some 96, .bin .lss, [.t 95, .k (.c (.s (.int .i64 0)))], some (92, false)⟩,
                   ⟨some 97, .pick, [.t 92, .k (.c (.s (.bool true))), .t 96], none⟩,
                   ⟨some 98, .mv, [.t 97], none⟩,
                   ⟨some 99, .mv, [.t 7], some (98, false)⟩,
                   ⟨some 100, .idx, [.t 99, .k (.c (.s (.int .i64 2)))], some (98, false)⟩,
                   ⟨some 101, .call 27, [.t 100], some (98, false)⟩,
                   ⟨some 102, .bin .lss, [.t 101, .k (.c (.s (.int .i64 0)))], some (98, false)⟩,
                   ⟨some 103, .pick, [.t 98, .k (.c (.s (.bool true))), .t 102], none⟩]) (
                 .cond (.t 103) (
                  .seq (
                   .reg [
                     ⟨some 2, .mv, [.k (.c (.s (.str [])))], none⟩,
                     ⟨some 3, .mv, [.k (.c (.s (.int .i64 2)))], none⟩]) (
                   .ret)) (
                  .skip))) (
                .seq (
                 .regD [
                   ⟨some 104, .mv, [.t 4], none⟩,
                   ⟨some 105, .mv, [.t 7], none⟩,
                   ⟨some 106, .idx, [.t 105, .k (.c (.s (.int .i64 1)))], none⟩,
                   ⟨some 107, .call 27, [.t 106], none⟩,
                   ⟨some 108, .bin .mul, [.k (.c (.s (.int .i64 16))), .t 107], none⟩,
                   ⟨some 109, .mv, [.t 7], none⟩,
                   ⟨some 110, .idx, [.t 109, .k (.c (.s (.int .i64 2)))], none⟩,
                   ⟨some 111, .call 27, [.t 110], none⟩,
                   ⟨some 112, .bin .add, [.t 108, .t 111], none⟩,
                   ⟨some 113, .conv .u8, [.t 112], none⟩,
                   ⟨some 114, .bslice 1 1 [.int .u8 0] [0], [.t 113], none⟩,
                   ⟨some 115, .append false 1 1, [.t 104, .t 114], none⟩,
                   ⟨some 4, .mv, [.t 115], none⟩] []) (
                 .reg [
                   ⟨some 116, .mv, [.t 5], none⟩,
                   ⟨some 117, .bin .add, [.t 116, .k (.c (.s (.int .i64 3)))], none⟩,
                   ⟨some 5, .mv, [.t 117], none⟩]))))))))) (
         .reg [
           ⟨some 36, .mv, [.t 5], none⟩,
           ⟨some 37, .bin .add, [.t 36, .k (.c (.s (.int .i64 1)))], none⟩,
           ⟨some 5, .mv, [.t 37], none⟩])))))) (
    .seq (
     .seq (
      .reg [
        ⟨some 118, .mv, [.t 4], none⟩,
        ⟨some 119, .len false, [.t 118], none⟩,
        ⟨some 120, .bin .gtr, [.t 119, .k (.c (.s (.int .i64 40)))], none⟩]) (
      .cond (.t 120) (
       .seq (
        .reg [
          ⟨some 2, .mv, [.k (.c (.s (.str [])))], none⟩,
          ⟨some 3, .mv, [.k (.c (.s (.int .i64 5)))], none⟩]) (
        .ret)) (
       .skip))) (
     .seq (
      .reg [
        ⟨some 121, .mv, [.t 4], none⟩,
        ⟨some 122, .toStr, [.t 121], none⟩,
        ⟨some 2, .mv, [.t 122], none⟩,
        ⟨some 3, .mv, [.k (.c (.s (.int .i64 0)))], none⟩]) (
      .ret))))))
noncomputable def G_ref01_Unquote : FuncId → Ab.Spec := addS (addS (noS) 12 (plain rBareG)) 27 (plain valueG)
theorem G_ref01_Unquote_ok : ∀ f, Contract Try.prog f (G_ref01_Unquote f) := (addS_ok (addS_ok (noS_ok _) contract_ref01_Bare) contract_ref01_value)
theorem G_ref01_Unquote_12 : G_ref01_Unquote 12 = plain rBareG := by simp [G_ref01_Unquote, addS]
theorem G_ref01_Unquote_27 : G_ref01_Unquote 27 = plain valueG := by simp [G_ref01_Unquote, addS]
set_option maxHeartbeats 4000000 in
set_option maxRecDepth 100000 in
set_option linter.unusedSimpArgs false in
set_option linter.unusedVariables false in
theorem contract_ref01_Unquote : Contract Try.prog 16 (plain runqG) := by
  have hb : ∃ c, Try.f16.body = some c ∧ codeOk 123 c = true ∧ cCode Try.prog c = sc_ref01_Unquote := ⟨_, rfl, by kernel_rfl, by kernel_rfl⟩
  obtain ⟨c, hb1, hb2, hb3⟩ := hb
  refine contract_of (n := 1) G_ref01_Unquote_ok hB hD Try.func16 hb1 (by kernel_rfl) hb2 hb3 (rs := [.tmp 2, .tmp 3]) (by kernel_rfl) (by decide) ?_ ?_
  · intro args x h
    unfold plain runqG at h
    split at h <;> simp_all
  · intro args r hr
    unfold plain runqG at hr
    split at hr
    case h_2 => cases hr
    rename_i t
    split at hr
    case isFalse => cases hr
    rename_i hc
    simp only [Option.map_some, Option.some.injEq] at hr
    subst hr
    unfold sc_ref01_Unquote
    cases hq : quotedB t with
    | false =>
      have hq' := hq
      rw [← quoted_iff] at hq'
      have hq2 : (decide ((t.length : Int) < 2) || !decide (t.getD 0 0 = 34) || !decide (t.getD ((t.length : Int) - 1).toNat 0 = 34)) = true := by
        have e : decide ((t.length : Int) < 2) = !decide (1 < (t.length : Int)) := by rw [← decide_not, decide_eq_decide]; omega
        rw [e, ← Bool.not_and, ← Bool.not_and, hq']; rfl
      cases hwt : wordC t with
      | false =>
        have hu : unquoteT t = ([], 2) := by unfold unquoteT readE; rw [hq, hwt]; rfl
        simp +contextual (maxSteps := 4000000) only [↓exT_call G_ref01_Unquote_12, ↓exT_callo G_ref01_Unquote_12, rBareG_call, rBareG_callo, ↓exT_call G_ref01_Unquote_27, ↓exT_callo G_ref01_Unquote_27, valueG_call, valueG_callo, hq2, hu, hwt, go_sem, Nat.reduceAdd, Nat.reduceSub, Nat.reduceMul, Nat.reduceEqDiff, Nat.reduceLeDiff, Nat.reduceLT, Nat.reduceBEq, Int.reduceLE, Int.reduceLT, Int.reduceToNat, Int.reduceNeg, Int.reduceAdd, Int.reduceSub, Int.reduceMul, ↓reduceIte]
        all_goals ((repeat' (first | with_reducible apply And.intro | intro)) <;> try omega)
      | true =>
        by_cases h40 : 40 < t.length
        · have hu : unquoteT t = ([], 5) := by unfold unquoteT readE; rw [hq, hwt]; simp [h40]
          have h40' : 40 < (t.length : Int) := by omega
          simp +contextual (maxSteps := 4000000) only [↓exT_call G_ref01_Unquote_12, ↓exT_callo G_ref01_Unquote_12, rBareG_call, rBareG_callo, ↓exT_call G_ref01_Unquote_27, ↓exT_callo G_ref01_Unquote_27, valueG_call, valueG_callo, hq2, hu, hwt, h40', go_sem, Nat.reduceAdd, Nat.reduceSub, Nat.reduceMul, Nat.reduceEqDiff, Nat.reduceLeDiff, Nat.reduceLT, Nat.reduceBEq, Int.reduceLE, Int.reduceLT, Int.reduceToNat, Int.reduceNeg, Int.reduceAdd, Int.reduceSub, Int.reduceMul, ↓reduceIte]
          all_goals ((repeat' (first | with_reducible apply And.intro | intro)) <;> try omega)
        · have hu : unquoteT t = (t, 0) := by unfold unquoteT readE; rw [hq, hwt]; simp [h40]
          have h40' : ¬ 40 < (t.length : Int) := by omega
          simp +contextual (maxSteps := 4000000) only [↓exT_call G_ref01_Unquote_12, ↓exT_callo G_ref01_Unquote_12, rBareG_call, rBareG_callo, ↓exT_call G_ref01_Unquote_27, ↓exT_callo G_ref01_Unquote_27, valueG_call, valueG_callo, hq2, hu, hwt, h40', go_sem, Nat.reduceAdd, Nat.reduceSub, Nat.reduceMul, Nat.reduceEqDiff, Nat.reduceLeDiff, Nat.reduceLT, Nat.reduceBEq, Int.reduceLE, Int.reduceLT, Int.reduceToNat, Int.reduceNeg, Int.reduceAdd, Int.reduceSub, Int.reduceMul, ↓reduceIte]
          all_goals ((repeat' (first | with_reducible apply And.intro | intro)) <;> try omega)
    | true =>
    have hq' := hq
    rw [← quoted_iff] at hq'
    simp only [Bool.and_eq_true, decide_eq_true_eq] at hq'
    have hl : 1 < (t.length : Int) := hq'.1.1
    have hl' : ¬ (t.length : Int) < 2 := by omega
    have e2 : ((t.length : Int) - 1).toNat = t.length - 1 := by omega
    have e : List.drop 1 (List.take (t.length - 1) t) = (t.drop 1).dropLast := by
      rw [List.dropLast_eq_take, List.drop_take]; simp
    have hu : unquoteT t = match innerE (List.drop 1 (List.take (t.length - 1) t)) with
      | none => ([], 2)
      | some s => if 40 < s.length then ([], 5) else (s, 0) := by
      unfold unquoteT readE; rw [hq, e]; rfl
    generalize hbd : List.drop 1 (List.take (t.length - 1) t) = bd at hu
    have hdrop : ∀ k, List.drop k bd = List.drop (k + 1) (List.take (t.length - 1) t) := fun k => by rw [← hbd, List.drop_drop, Nat.add_comm]
    simp +contextual (maxSteps := 4000000) only [↓exT_call G_ref01_Unquote_12, ↓exT_callo G_ref01_Unquote_12, rBareG_call, rBareG_callo, ↓exT_call G_ref01_Unquote_27, ↓exT_callo G_ref01_Unquote_27, valueG_call, valueG_callo, hl', hq'.1.2, hq'.2, go_sem, Nat.reduceAdd, Nat.reduceSub, Nat.reduceMul, Nat.reduceEqDiff, Nat.reduceLeDiff, Nat.reduceLT, Nat.reduceBEq, Int.reduceLE, Int.reduceLT, Int.reduceToNat, Int.reduceNeg, Int.reduceAdd, Int.reduceSub, Int.reduceMul, ↓reduceIte]
    all_goals ((repeat' (first | with_reducible apply And.intro | intro)) <;> try omega)
    refine awp_loopM (α := Bs × Nat) (fun y => [(0, .c (.s (.str t))), (4, .c (.own 4 (encs byteE y.1).length)), (5, .c (.s (.int .i64 y.2)))]) (fun y => [(4, .row 1 (encs byteE y.1))]) (fun y => t.length - y.2) ([], 1)
      (fun y => 1 ≤ y.2 ∧ y.2 ≤ t.length - 1 ∧ innerE bd = (innerE (List.drop y.2 (List.take (t.length - 1) t))).map (y.1 ++ ·) ∧ y.1.length ≤ y.2)
      ⟨Nat.le_refl _, by omega, by simp only [hbd]; cases innerE bd <;> simp, by simp⟩ (Weak.trans (Weak.nilSlot 4 4 1 rfl rfl) (Weak.meets ?_)) ?_
    · simp +contextual (maxSteps := 4000000) only [↓exT_call G_ref01_Unquote_12, ↓exT_callo G_ref01_Unquote_12, rBareG_call, rBareG_callo, ↓exT_call G_ref01_Unquote_27, ↓exT_callo G_ref01_Unquote_27, valueG_call, valueG_callo, go_sem, Nat.reduceAdd, Nat.reduceSub, Nat.reduceMul, Nat.reduceEqDiff, Nat.reduceLeDiff, Nat.reduceLT, Nat.reduceBEq, Int.reduceLE, Int.reduceLT, Int.reduceToNat, Int.reduceNeg, Int.reduceAdd, Int.reduceSub, Int.reduceMul, ↓reduceIte]
      simp
    rintro ⟨out, i⟩ ⟨hi1, hi2, hin, hol⟩
    simp only at hi1 hi2 hin hol
    by_cases hil : i < t.length - 1
    case neg =>
      have hie : i = t.length - 1 := by omega
      have hnil : List.drop i (List.take (t.length - 1) t) = [] := List.drop_eq_nil_of_le (by simp <;> omega)
      rw [hnil, inner_nil] at hin
      simp only [Option.map_some, List.append_nil] at hin
      rw [hin] at hu
      simp only at hu
      have hii : ¬ (i : Int) < (t.length : Int) - 1 := by omega
      by_cases h40 : 40 < out.length
      · rw [if_pos h40] at hu
        have h40' : 40 < (out.length : Int) := by omega
        simp +contextual (maxSteps := 4000000) only [↓exT_call G_ref01_Unquote_12, ↓exT_callo G_ref01_Unquote_12, rBareG_call, rBareG_callo, ↓exT_call G_ref01_Unquote_27, ↓exT_callo G_ref01_Unquote_27, valueG_call, valueG_callo, hii, hu, h40', go_sem, Nat.reduceAdd, Nat.reduceSub, Nat.reduceMul, Nat.reduceEqDiff, Nat.reduceLeDiff, Nat.reduceLT, Nat.reduceBEq, Int.reduceLE, Int.reduceLT, Int.reduceToNat, Int.reduceNeg, Int.reduceAdd, Int.reduceSub, Int.reduceMul, ↓reduceIte]
        all_goals ((repeat' (first | with_reducible apply And.intro | intro)) <;> try omega)
      · rw [if_neg h40] at hu
        have h40' : ¬ 40 < (out.length : Int) := by omega
        simp +contextual (maxSteps := 4000000) only [↓exT_call G_ref01_Unquote_12, ↓exT_callo G_ref01_Unquote_12, rBareG_call, rBareG_callo, ↓exT_call G_ref01_Unquote_27, ↓exT_callo G_ref01_Unquote_27, valueG_call, valueG_callo, hii, hu, h40', go_sem, Nat.reduceAdd, Nat.reduceSub, Nat.reduceMul, Nat.reduceEqDiff, Nat.reduceLeDiff, Nat.reduceLT, Nat.reduceBEq, Int.reduceLE, Int.reduceLT, Int.reduceToNat, Int.reduceNeg, Int.reduceAdd, Int.reduceSub, Int.reduceMul, ↓reduceIte]
        all_goals ((repeat' (first | with_reducible apply And.intro | intro)) <;> try omega)
    have hii : (i : Int) < (t.length : Int) - 1 := by omega
    have hilt : i < t.length := by omega
    generalize hc : t.getD i 0 = c
    have hcons : List.drop i (List.take (t.length - 1) t) = c :: List.drop (i + 1) (List.take (t.length - 1) t) := by
      rw [List.drop_eq_getElem_cons (by simp <;> omega)]
      congr 1
      rw [List.getElem_take, ← hc]
      simp [hilt]
    rw [hcons] at hin
    generalize hr : List.drop (i + 1) (List.take (t.length - 1) t) = r at hin
    have hrl : r.length = t.length - 1 - (i + 1) := by rw [← hr]; simp <;> omega
    have ei : ((i : Int) + 1).toNat = i + 1 := by omega
    have hnone : innerE (c :: r) = none → unquoteT t = ([], 2) := fun hn => by rw [hn] at hin; rw [hin] at hu; exact hu
    by_cases h1 : c = 34 ∨ c < 32 ∨ 126 < c
    · have hu2 := hnone (inner_bad c r h1)
      have e3 : (decide (c < 32) || decide (126 < c) || decide (c = 34)) = true := by
        simp only [Bool.or_eq_true, decide_eq_true_eq]
        rcases h1 with h | h | h
        · exact .inr h
        · exact .inl (.inl h)
        · exact .inl (.inr h)
      simp +contextual (maxSteps := 4000000) only [↓exT_call G_ref01_Unquote_12, ↓exT_callo G_ref01_Unquote_12, rBareG_call, rBareG_callo, ↓exT_call G_ref01_Unquote_27, ↓exT_callo G_ref01_Unquote_27, valueG_call, valueG_callo, hii, hc, e3, hu2, go_sem, Nat.reduceAdd, Nat.reduceSub, Nat.reduceMul, Nat.reduceEqDiff, Nat.reduceLeDiff, Nat.reduceLT, Nat.reduceBEq, Int.reduceLE, Int.reduceLT, Int.reduceToNat, Int.reduceNeg, Int.reduceAdd, Int.reduceSub, Int.reduceMul, ↓reduceIte]
      all_goals ((repeat' (first | with_reducible apply And.intro | intro)) <;> try omega)
    have e0 : ¬ c = 34 ∧ ¬ c < 32 ∧ ¬ 126 < c := ⟨fun h => h1 (.inl h), fun h => h1 (.inr (.inl h)), fun h => h1 (.inr (.inr h))⟩
    by_cases h2 : c = 92
    case neg =>
      simp +contextual (maxSteps := 4000000) only [↓exT_call G_ref01_Unquote_12, ↓exT_callo G_ref01_Unquote_12, rBareG_call, rBareG_callo, ↓exT_call G_ref01_Unquote_27, ↓exT_callo G_ref01_Unquote_27, valueG_call, valueG_callo, hii, hc, e0.1, e0.2.1, e0.2.2, h2, go_sem, Nat.reduceAdd, Nat.reduceSub, Nat.reduceMul, Nat.reduceEqDiff, Nat.reduceLeDiff, Nat.reduceLT, Nat.reduceBEq, Int.reduceLE, Int.reduceLT, Int.reduceToNat, Int.reduceNeg, Int.reduceAdd, Int.reduceSub, Int.reduceMul, ↓reduceIte]
      all_goals ((repeat' (first | with_reducible apply And.intro | intro)) <;> try omega)
      refine ⟨(out ++ [c], i + 1), ⟨by simp, by simp <;> omega, ?_, by simp <;> omega⟩, by simp <;> omega, ?_⟩
      · simp only [hr]
        rw [hin, inner_one c r h1 h2]
        cases innerE r <;> simp
      · simp [encs, byteE]
    have h2t := eq_true h2
    have hsl : List.drop ((i : Int) + 1).toNat (List.take ((t.length : Int) - 1).toNat t) = r := by rw [ei, e2, hr]
    match r with
    | [] =>
      have hu2 := hnone (h2 ▸ inner_92)
      simp +contextual (maxSteps := 4000000) only [↓exT_call G_ref01_Unquote_12, ↓exT_callo G_ref01_Unquote_12, rBareG_call, rBareG_callo, ↓exT_call G_ref01_Unquote_27, ↓exT_callo G_ref01_Unquote_27, valueG_call, valueG_callo, hii, hc, e0.1, e0.2.1, e0.2.2, h2t, hsl, hu2, go_sem, Nat.reduceAdd, Nat.reduceSub, Nat.reduceMul, Nat.reduceEqDiff, Nat.reduceLeDiff, Nat.reduceLT, Nat.reduceBEq, Int.reduceLE, Int.reduceLT, Int.reduceToNat, Int.reduceNeg, Int.reduceAdd, Int.reduceSub, Int.reduceMul, ↓reduceIte]
      all_goals ((repeat' (first | with_reducible apply And.intro | intro)) <;> try omega)
    | d :: r =>
      have hsl0 : ∀ k, List.drop (i + 1 + k) (List.take (t.length - 1) t) = List.drop k (d :: r) := fun k => by rw [← List.drop_drop, hr]
      simp only [List.length_cons] at hrl
      by_cases h3 : d = 34 ∨ d = 92
      · have e3 : (decide (d = 34) || decide (d = 92)) = true := by simpa using h3
        simp +contextual (maxSteps := 4000000) only [↓exT_call G_ref01_Unquote_12, ↓exT_callo G_ref01_Unquote_12, rBareG_call, rBareG_callo, ↓exT_call G_ref01_Unquote_27, ↓exT_callo G_ref01_Unquote_27, valueG_call, valueG_callo, hii, hc, e0.1, e0.2.1, e0.2.2, h2t, hsl, e3, go_sem, Nat.reduceAdd, Nat.reduceSub, Nat.reduceMul, Nat.reduceEqDiff, Nat.reduceLeDiff, Nat.reduceLT, Nat.reduceBEq, Int.reduceLE, Int.reduceLT, Int.reduceToNat, Int.reduceNeg, Int.reduceAdd, Int.reduceSub, Int.reduceMul, ↓reduceIte]
        all_goals ((repeat' (first | with_reducible apply And.intro | intro)) <;> try omega)
        refine ⟨(out ++ [d], i + 2), ⟨by simp, by simp <;> omega, ?_, by simp <;> omega⟩, by simp <;> omega, ?_⟩
        · have := hsl0 1
          simp only [List.drop_succ_cons, List.drop_zero] at this
          rw [hin, h2, inner_two d r h3]
          simp only
          rw [show i + 2 = i + 1 + 1 by omega, this]
          cases innerE r <;> simp
        · simp [encs, byteE] <;> omega
      · have hn : ¬ d = 34 ∧ ¬ d = 92 := ⟨fun h => h3 (.inl h), fun h => h3 (.inr h)⟩
        match r with
        | [] =>
          have hu2 := hnone (h2 ▸ inner_short2 d h3)
          simp +contextual (maxSteps := 4000000) only [↓exT_call G_ref01_Unquote_12, ↓exT_callo G_ref01_Unquote_12, rBareG_call, rBareG_callo, ↓exT_call G_ref01_Unquote_27, ↓exT_callo G_ref01_Unquote_27, valueG_call, valueG_callo, hii, hc, e0.1, e0.2.1, e0.2.2, h2t, hsl, hn.1, hn.2, hu2, go_sem, Nat.reduceAdd, Nat.reduceSub, Nat.reduceMul, Nat.reduceEqDiff, Nat.reduceLeDiff, Nat.reduceLT, Nat.reduceBEq, Int.reduceLE, Int.reduceLT, Int.reduceToNat, Int.reduceNeg, Int.reduceAdd, Int.reduceSub, Int.reduceMul, ↓reduceIte]
          all_goals ((repeat' (first | with_reducible apply And.intro | intro)) <;> try omega)
        | [a] =>
          have hu2 := hnone (h2 ▸ inner_short3 d a h3)
          simp +contextual (maxSteps := 4000000) only [↓exT_call G_ref01_Unquote_12, ↓exT_callo G_ref01_Unquote_12, rBareG_call, rBareG_callo, ↓exT_call G_ref01_Unquote_27, ↓exT_callo G_ref01_Unquote_27, valueG_call, valueG_callo, hii, hc, e0.1, e0.2.1, e0.2.2, h2t, hsl, hn.1, hn.2, hu2, go_sem, Nat.reduceAdd, Nat.reduceSub, Nat.reduceMul, Nat.reduceEqDiff, Nat.reduceLeDiff, Nat.reduceLT, Nat.reduceBEq, Int.reduceLE, Int.reduceLT, Int.reduceToNat, Int.reduceNeg, Int.reduceAdd, Int.reduceSub, Int.reduceMul, ↓reduceIte]
          all_goals ((repeat' (first | with_reducible apply And.intro | intro)) <;> try omega)
        | a :: b :: r =>
          simp only [List.length_cons] at hrl
          have hla := hexV_lt a
          have hlb := hexV_lt b
          have hga := hexV_ge a
          have hgb := hexV_ge b
          have hl3 : ¬ (((d :: a :: b :: r).length : Nat) : Int) < 3 := by simp only [List.length_cons]; omega
          have hl3' : ¬ ((r.length + 1 + 1 + 1 : Nat) : Int) < 3 := by omega
          have hih := inner_hex d a b r h3
          by_cases h4 : d = 120
          case neg =>
            rw [if_neg (fun x => h4 x.1)] at hih
            have hu2 := hnone (h2 ▸ hih)
            simp +contextual (maxSteps := 4000000) only [↓exT_call G_ref01_Unquote_12, ↓exT_callo G_ref01_Unquote_12, rBareG_call, rBareG_callo, ↓exT_call G_ref01_Unquote_27, ↓exT_callo G_ref01_Unquote_27, valueG_call, valueG_callo, hii, hc, e0.1, e0.2.1, e0.2.2, h2t, hsl, hn.1, hn.2, h4, hu2, go_sem, Nat.reduceAdd, Nat.reduceSub, Nat.reduceMul, Nat.reduceEqDiff, Nat.reduceLeDiff, Nat.reduceLT, Nat.reduceBEq, Int.reduceLE, Int.reduceLT, Int.reduceToNat, Int.reduceNeg, Int.reduceAdd, Int.reduceSub, Int.reduceMul, ↓reduceIte]
            all_goals ((repeat' (first | with_reducible apply And.intro | intro)) <;> try omega)
          by_cases h5 : 0 ≤ hexV a
          case neg =>
            rw [if_neg (fun x => h5 x.2.1)] at hih
            have hu2 := hnone (h2 ▸ hih)
            have h5' : hexV a < 0 := by omega
            simp +contextual (maxSteps := 4000000) only [↓exT_call G_ref01_Unquote_12, ↓exT_callo G_ref01_Unquote_12, rBareG_call, rBareG_callo, ↓exT_call G_ref01_Unquote_27, ↓exT_callo G_ref01_Unquote_27, valueG_call, valueG_callo, hii, hc, e0.1, e0.2.1, e0.2.2, h2t, hsl, hn.1, hn.2, eq_true h4, h5', hu2, go_sem, Nat.reduceAdd, Nat.reduceSub, Nat.reduceMul, Nat.reduceEqDiff, Nat.reduceLeDiff, Nat.reduceLT, Nat.reduceBEq, Int.reduceLE, Int.reduceLT, Int.reduceToNat, Int.reduceNeg, Int.reduceAdd, Int.reduceSub, Int.reduceMul, ↓reduceIte]
            all_goals ((repeat' (first | with_reducible apply And.intro | intro)) <;> try omega)
          by_cases h6 : 0 ≤ hexV b
          case neg =>
            rw [if_neg (fun x => h6 x.2.2)] at hih
            have hu2 := hnone (h2 ▸ hih)
            have h5' : ¬ hexV a < 0 := by omega
            have h6' : hexV b < 0 := by omega
            simp +contextual (maxSteps := 4000000) only [↓exT_call G_ref01_Unquote_12, ↓exT_callo G_ref01_Unquote_12, rBareG_call, rBareG_callo, ↓exT_call G_ref01_Unquote_27, ↓exT_callo G_ref01_Unquote_27, valueG_call, valueG_callo, hii, hc, e0.1, e0.2.1, e0.2.2, h2t, hsl, hn.1, hn.2, eq_true h4, h5', h6', hu2, go_sem, Nat.reduceAdd, Nat.reduceSub, Nat.reduceMul, Nat.reduceEqDiff, Nat.reduceLeDiff, Nat.reduceLT, Nat.reduceBEq, Int.reduceLE, Int.reduceLT, Int.reduceToNat, Int.reduceNeg, Int.reduceAdd, Int.reduceSub, Int.reduceMul, ↓reduceIte]
            all_goals ((repeat' (first | with_reducible apply And.intro | intro)) <;> try omega)
          rw [if_pos ⟨h4, h5, h6⟩] at hih
          have h5' : ¬ hexV a < 0 := by omega
          have h6' : ¬ hexV b < 0 := by omega
          simp +contextual (maxSteps := 4000000) only [↓exT_call G_ref01_Unquote_12, ↓exT_callo G_ref01_Unquote_12, rBareG_call, rBareG_callo, ↓exT_call G_ref01_Unquote_27, ↓exT_callo G_ref01_Unquote_27, valueG_call, valueG_callo, hii, hc, e0.1, e0.2.1, e0.2.2, h2t, hsl, hn.1, hn.2, eq_true h4, h5', h6', hl3', go_sem, Nat.reduceAdd, Nat.reduceSub, Nat.reduceMul, Nat.reduceEqDiff, Nat.reduceLeDiff, Nat.reduceLT, Nat.reduceBEq, Int.reduceLE, Int.reduceLT, Int.reduceToNat, Int.reduceNeg, Int.reduceAdd, Int.reduceSub, Int.reduceMul, ↓reduceIte]
          all_goals ((repeat' (first | with_reducible apply And.intro | intro)) <;> try omega)
          refine ⟨(out ++ [UInt8.ofNat (16 * hexV a + hexV b).toNat], i + 4), ⟨by simp, by simp <;> omega, ?_, by simp <;> omega⟩, by simp <;> omega, ?_⟩
          · have := hsl0 3
            simp only [List.drop_succ_cons, List.drop_zero] at this
            rw [hin, h2, hih]
            simp only
            rw [show i + 4 = i + 1 + 3 by omega, this]
            cases innerE r <;> simp
          · simp [encs, byteE] <;> omega

end Go.Proofs.Ytkhplfdijadhbaa
