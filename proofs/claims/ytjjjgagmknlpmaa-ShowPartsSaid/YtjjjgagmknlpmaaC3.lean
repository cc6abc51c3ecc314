/- The document's answer for the words: what each function hands back. -/
import Derived.Test.YtjjjgagmknlpmaaC2
set_option linter.all false
namespace Go.Proofs.Ytjjjgagmknlpmaa
open Go Go.Ab Go.Proofs Go.Fs
def rbareG : List V → Option V
  | [.c (.s (.int .u8 c))] => if 0 ≤ c ∧ c < 256 then some (.c (.s (.bool (bareB (UInt8.ofNat c.toNat))))) else none
  | _ => none
theorem rbareG_call {c : Int} {gt : Bool} {K : V → Prop} : callE rbareG [.c (.s (.int .u8 c))] gt K = ((gt = true → 0 ≤ c ∧ c < 256) ∧ bindV (ifV gt (.c (.s (.bool (bareB (UInt8.ofNat c.toNat)))))) K) := callE_of rfl
theorem rbareG_callo {c : Int} {m : Nat → Option Ab.Obj} {locs : List Nat} {K : V → (Nat → Option Ab.Obj) → Prop} : callO rbareG (some [.c (.s (.int .u8 c))]) m locs K = ((0 ≤ c ∧ c < 256) ∧ K (.c (.s (.bool (bareB (UInt8.ofNat c.toNat))))) (sealW m locs (.c (.s (.bool (bareB (UInt8.ofNat c.toNat))))))) := callO_of rfl
attribute [go_sem] rbareG_call rbareG_callo

def sc_ref01_bare : SC := .seq (.reg [⟨some 2, .mv, [.k (.c (.s (.bool false)))], none⟩]) (.seq (.seq (.reg [⟨some 3, .mv, [.t 0], none⟩,
⟨some 4, .bin .geq, [.t 3, .k (.c (.s (.int .u8 97)))], none⟩,
⟨some 5, .mv, [.t 4], none⟩,
⟨some 6, .mv, [.t 0], some (5, true)⟩,
⟨some 7, .bin .leq, [.t 6, .k (.c (.s (.int .u8 122)))], some (5, true)⟩,
⟨some 8, .pick, [.t 5, .t 7, .k (.c (.s (.bool false)))], none⟩,
⟨some 9, .mv, [.t 8], none⟩,
⟨some 10, .mv, [.t 0], some (9, false)⟩,
⟨some 11, .bin .geq, [.t 10, .k (.c (.s (.int .u8 65)))], some (9, false)⟩,
⟨some 12, .mv, [.t 11], some (9, false)⟩,
⟨some 13, .mv, [.t 0], some (12, true)⟩,
⟨some 14, .bin .leq, [.t 13, .k (.c (.s (.int .u8 90)))], some (12, true)⟩,
⟨some 15, .pick, [.t 12, .t 14, .k (.c (.s (.bool false)))], some (9, false)⟩,
⟨some 16, .pick, [.t 9, .k (.c (.s (.bool true))), .t 15], none⟩,
⟨some 17, .mv, [.t 16], none⟩,
⟨some 18, .mv, [.t 0], some (17, false)⟩,
⟨some 19, .bin .geq, [.t 18, .k (.c (.s (.int .u8 48)))], some (17, false)⟩,
⟨some 20, .mv, [.t 19], some (17, false)⟩,
⟨some 21, .mv, [.t 0], some (20, true)⟩,
⟨some 22, .bin .leq, [.t 21, .k (.c (.s (.int .u8 57)))], some (20, true)⟩,
⟨some 23, .pick, [.t 20, .t 22, .k (.c (.s (.bool false)))], some (17, false)⟩,
⟨some 24, .pick, [.t 17, .k (.c (.s (.bool true))), .t 23], none⟩]) (.cond (.t 24) (.seq (.reg [⟨some 2, .mv, [.k (.c (.s (.bool true)))], none⟩]) (.ret)) (.skip))) (.seq (.reg [⟨some 25, .mv, [.t 0], none⟩,
⟨some 26, .bin .eql, [.t 25, .k (.c (.s (.int .u8 45)))], none⟩,
⟨some 27, .mv, [.t 26], none⟩,
⟨some 28, .mv, [.t 0], some (27, false)⟩,
⟨some 29, .bin .eql, [.t 28, .k (.c (.s (.int .u8 95)))], some (27, false)⟩,
⟨some 30, .pick, [.t 27, .k (.c (.s (.bool true))), .t 29], none⟩,
⟨some 31, .mv, [.t 30], none⟩,
⟨some 32, .mv, [.t 0], some (31, false)⟩,
⟨some 33, .bin .eql, [.t 32, .k (.c (.s (.int .u8 46)))], some (31, false)⟩,
⟨some 34, .pick, [.t 31, .k (.c (.s (.bool true))), .t 33], none⟩,
⟨some 35, .mv, [.t 34], none⟩,
⟨some 36, .mv, [.t 0], some (35, false)⟩,
⟨some 37, .bin .eql, [.t 36, .k (.c (.s (.int .u8 47)))], some (35, false)⟩,
⟨some 38, .pick, [.t 35, .k (.c (.s (.bool true))), .t 37], none⟩,
⟨some 39, .mv, [.t 38], none⟩,
⟨some 40, .mv, [.t 0], some (39, false)⟩,
⟨some 41, .bin .eql, [.t 40, .k (.c (.s (.int .u8 58)))], some (39, false)⟩,
⟨some 42, .pick, [.t 39, .k (.c (.s (.bool true))), .t 41], none⟩,
⟨some 43, .mv, [.t 42], none⟩,
⟨some 44, .mv, [.t 0], some (43, false)⟩,
⟨some 45, .bin .eql, [.t 44, .k (.c (.s (.int .u8 42)))], some (43, false)⟩,
⟨some 46, .pick, [.t 43, .k (.c (.s (.bool true))), .t 45], none⟩,
⟨some 2, .mv, [.t 46], none⟩]) (.ret)))
noncomputable def G_ref01_bare : FuncId → Ab.Spec := noS
theorem G_ref01_bare_ok : ∀ f, Contract Try.prog f (G_ref01_bare f) := (noS_ok _)
set_option maxHeartbeats 16000000 in
set_option maxRecDepth 1000000 in
set_option linter.unusedSimpArgs false in
set_option linter.unusedVariables false in
theorem contract_ref01_bare : Contract Try.prog 48 (plain rbareG) := by
  have hb : ∃ c, Try.f48.body = some c ∧ codeOk 47 c = true ∧ cCode Try.prog c = sc_ref01_bare := ⟨_, rfl, by kernel_rfl, by kernel_rfl⟩
  obtain ⟨c, hb1, hb2, hb3⟩ := hb
  refine contract_of (n := 1) G_ref01_bare_ok hB hD Try.func48 hb1 (by kernel_rfl) hb2 hb3 (rs := [.tmp 2]) (by kernel_rfl) (by decide) ?_ ?_
  · intro args x h
    unfold plain rbareG at h
    split at h <;> simp_all
  · intro args r hr
    unfold plain rbareG at hr
    split at hr
    case h_2 => cases hr
    rename_i c
    split at hr
    case isFalse => cases hr
    rename_i hc
    simp only [Option.map_some, Option.some.injEq] at hr
    subst hr
    unfold sc_ref01_bare
    obtain ⟨x, rfl⟩ := byte_ex hc
    simp +contextual (maxSteps := 4000000) only [go_sem, Nat.reduceAdd, Nat.reduceSub, Nat.reduceMul, Nat.reduceEqDiff, Nat.reduceLeDiff, Nat.reduceLT, Nat.reduceBEq, Int.reduceLE, Int.reduceLT, Int.reduceToNat, Int.reduceNeg, Int.reduceAdd, Int.reduceSub, Int.reduceMul, ↓reduceIte]
    clear hc
    induction x using byte_ind with
    | h n => revert n; decide +kernel

def rBareG : List V → Option V
  | [.c (.s (.str s))] => if s.length < 9223372036854775807 then some (.c (.s (.bool (wordC s)))) else none
  | _ => none
theorem rBareG_call {s : Bs} {gt : Bool} {K : V → Prop} : callE rBareG [.c (.s (.str s))] gt K = ((gt = true → s.length < 9223372036854775807) ∧ bindV (ifV gt (.c (.s (.bool (wordC s))))) K) := callE_of rfl
theorem rBareG_callo {s : Bs} {m : Nat → Option Ab.Obj} {locs : List Nat} {K : V → (Nat → Option Ab.Obj) → Prop} : callO rBareG (some [.c (.s (.str s))]) m locs K = ((s.length < 9223372036854775807) ∧ K (.c (.s (.bool (wordC s)))) (sealW m locs (.c (.s (.bool (wordC s)))))) := callO_of rfl
attribute [go_sem] rBareG_call rBareG_callo

theorem mark_at (s : Bs) : (decide (1 < (s.length : Int)) && decide (s.getD 0 0 = 47) && decide (s.getD 1 0 = 42)) = (decide (2 ≤ s.length) && decide (s.take 2 = [47, 42])) := by
  match s with
  | [] => rfl
  | [c] => rfl
  | c :: d :: r =>
    have h1 : decide (1 < ((c :: d :: r).length : Int)) = true := by simp only [List.length_cons]; exact decide_eq_true (by omega)
    rw [h1]
    by_cases h2 : c = 47 <;> by_cases h3 : d = 42 <;> simp [h2, h3]
def sc_ref01_Bare : SC := .seq (.reg [⟨some 2, .mv, [.k (.c (.s (.bool false)))], none⟩]) (.seq (.seq (.reg [⟨some 4, .mv, [.t 0], none⟩,
⟨some 5, .bin .eql, [.t 4, .k (.c (.s (.str [])))], none⟩,
⟨some 6, .mv, [.t 5], none⟩,
⟨some 7, .mv, [.t 0], some (6, false)⟩,
⟨some 8, .bin .eql, [.t 7, .k (.c (.s (.str [105, 110, 97, 99, 116, 105, 118, 101, 58])))], some (6, false)⟩,
⟨some 9, .pick, [.t 6, .k (.c (.s (.bool true))), .t 8], none⟩,
⟨some 10, .mv, [.t 9], none⟩,
⟨some 11, .mv, [.t 0], some (10, false)⟩,
⟨some 12, .bin .eql, [.t 11, .k (.c (.s (.str [112, 114, 111, 116, 101, 99, 116, 58])))], some (10, false)⟩,
⟨some 13, .pick, [.t 10, .k (.c (.s (.bool true))), .t 12], none⟩,
⟨some 14, .mv, [.t 13], none⟩,
⟨some 15, .mv, [.t 0], some (14, false)⟩,
⟨some 16, .len true, [.t 15], some (14, false)⟩,
⟨some 17, .bin .gtr, [.t 16, .k (.c (.s (.int .i64 1)))], some (14, false)⟩,
⟨some 18, .mv, [.t 17], some (14, false)⟩,
⟨some 19, .mv, [.t 0], some (18, true)⟩,
⟨some 20, .idx, [.t 19, .k (.c (.s (.int .i64 0)))], some (18, true)⟩,
⟨some 21, .bin .eql, [.t 20, .k (.c (.s (.int .u8 47)))], some (18, true)⟩,
⟨some 22, .pick, [.t 18, .t 21, .k (.c (.s (.bool false)))], some (14, false)⟩,
⟨some 23, .mv, [.t 22], some (14, false)⟩,
⟨some 24, .mv, [.t 0], some (23, true)⟩,
⟨some 25, .idx, [.t 24, .k (.c (.s (.int .i64 1)))], some (23, true)⟩,
⟨some 26, .bin .eql, [.t 25, .k (.c (.s (.int .u8 42)))], some (23, true)⟩,
⟨some 27, .pick, [.t 23, .t 26, .k (.c (.s (.bool false)))], some (14, false)⟩,
⟨some 28, .pick, [.t 14, .k (.c (.s (.bool true))), .t 27], none⟩]) (.cond (.t 28) (.seq (.reg [⟨some 2, .mv, [.k (.c (.s (.bool false)))], none⟩]) (.ret)) (.skip))) (.seq (.seq (.reg [⟨some 3, .mv, [.k (.c (.s (.int .i64 0)))], none⟩]) (.block 0 (.loop (.seq (.seq (.reg [⟨some 29, .mv, [.t 3], none⟩,
⟨some 30, .mv, [.t 0], none⟩,
⟨some 31, .len true, [.t 30], none⟩,
⟨some 32, .bin .lss, [.t 29, .t 31], none⟩]) (.cond (.t 32) (.skip) (.exit 0))) (.seq (.block 1 (.seq (.reg [⟨some 35, .mv, [.t 0], none⟩,
⟨some 36, .mv, [.t 3], none⟩,
⟨some 37, .idx, [.t 35, .t 36], none⟩,
⟨some 38, .call 48, [.t 37], none⟩,
⟨some 39, .not, [.t 38], none⟩]) (.cond (.t 39) (.seq (.reg [⟨some 2, .mv, [.k (.c (.s (.bool false)))], none⟩]) (.ret)) (.skip)))) (.reg [⟨some 33, .mv, [.t 3], none⟩,
⟨some 34, .bin .add, [.t 33, .k (.c (.s (.int .i64 1)))], none⟩,
⟨some 3, .mv, [.t 34], none⟩])))))) (.seq (.reg [⟨some 2, .mv, [.k (.c (.s (.bool true)))], none⟩]) (.ret))))
noncomputable def G_ref01_Bare : FuncId → Ab.Spec := addS (noS) 48 (plain rbareG)
theorem G_ref01_Bare_ok : ∀ f, Contract Try.prog f (G_ref01_Bare f) := (addS_ok (noS_ok _) contract_ref01_bare)
theorem G39_48 : G_ref01_Bare 48 = plain rbareG := by simp [G_ref01_Bare, addS]
set_option maxHeartbeats 16000000 in
set_option maxRecDepth 1000000 in
set_option linter.unusedSimpArgs false in
set_option linter.unusedVariables false in
theorem contract_ref01_Bare : Contract Try.prog 39 (plain rBareG) := by
  have hb : ∃ c, Try.f39.body = some c ∧ codeOk 40 c = true ∧ cCode Try.prog c = sc_ref01_Bare := ⟨_, rfl, by kernel_rfl, by kernel_rfl⟩
  obtain ⟨c, hb1, hb2, hb3⟩ := hb
  refine contract_of (n := 1) G_ref01_Bare_ok hB hD Try.func39 hb1 (by kernel_rfl) hb2 hb3 (rs := [.tmp 2]) (by kernel_rfl) (by decide) ?_ ?_
  · intro args x h
    unfold plain rBareG at h
    split at h <;> simp_all
  · intro args r hr
    unfold plain rBareG at hr
    split at hr
    case h_2 => cases hr
    rename_i s
    split at hr
    case isFalse => cases hr
    rename_i hc
    simp only [Option.map_some, Option.some.injEq] at hr
    subst hr
    unfold sc_ref01_Bare
    by_cases h1 : s = [] ∨ s = [105, 110, 97, 99, 116, 105, 118, 101, 58] ∨ s = [112, 114, 111, 116, 101, 99, 116, 58]
    · have hw : wordC s = false := by rcases h1 with rfl | rfl | rfl <;> decide
      have e : (decide (s = []) || decide (s = [105, 110, 97, 99, 116, 105, 118, 101, 58]) || decide (s = [112, 114, 111, 116, 101, 99, 116, 58])) = true := by
        rcases h1 with rfl | rfl | rfl <;> decide
      simp +contextual (maxSteps := 4000000) only [↓exT_call G39_48, ↓exT_callo G39_48, ↓exT_calloG G39_48, e, hw, go_sem, Nat.reduceAdd, Nat.reduceSub, Nat.reduceMul, Nat.reduceEqDiff, Nat.reduceLeDiff, Nat.reduceLT, Nat.reduceBEq, Int.reduceLE, Int.reduceLT, Int.reduceToNat, Int.reduceNeg, Int.reduceAdd, Int.reduceSub, Int.reduceMul, ↓reduceIte]
    have h1' : ¬ s = [] ∧ ¬ s = [105, 110, 97, 99, 116, 105, 118, 101, 58] ∧ ¬ s = [112, 114, 111, 116, 101, 99, 116, 58] := ⟨fun h => h1 (.inl h), fun h => h1 (.inr (.inl h)), fun h => h1 (.inr (.inr h))⟩
    have hl : s.length ≠ 0 := fun h => h1'.1 (List.length_eq_zero_iff.1 h)
    by_cases hm : (decide (2 ≤ s.length) && decide (s.take 2 = [47, 42])) = true
    · have hw : wordC s = false := by simp [wordC, markC]; intro _ _; simp at hm; simp [hm]
      rw [← mark_at] at hm
      simp only [Bool.and_eq_true, decide_eq_true_eq] at hm
      simp +contextual (maxSteps := 4000000) only [↓exT_call G39_48, ↓exT_callo G39_48, ↓exT_calloG G39_48, h1'.1, h1'.2.1, h1'.2.2, hm.1.1, hm.1.2, hm.2, hw, go_sem, Nat.reduceAdd, Nat.reduceSub, Nat.reduceMul, Nat.reduceEqDiff, Nat.reduceLeDiff, Nat.reduceLT, Nat.reduceBEq, Int.reduceLE, Int.reduceLT, Int.reduceToNat, Int.reduceNeg, Int.reduceAdd, Int.reduceSub, Int.reduceMul, ↓reduceIte]
      omega
    have hm := Bool.not_eq_true _ ▸ hm
    have hw : wordC s = s.all bareB := by simp only [wordC, markC, h1'.1, h1'.2.1, h1'.2.2, hm]; simp
    rw [← mark_at] at hm
    simp +contextual (maxSteps := 4000000) only [↓exT_call G39_48, ↓exT_callo G39_48, ↓exT_calloG G39_48, h1'.1, h1'.2.1, h1'.2.2, hm, hw, go_sem, Nat.reduceAdd, Nat.reduceSub, Nat.reduceMul, Nat.reduceEqDiff, Nat.reduceLeDiff, Nat.reduceLT, Nat.reduceBEq, Int.reduceLE, Int.reduceLT, Int.reduceToNat, Int.reduceNeg, Int.reduceAdd, Int.reduceSub, Int.reduceMul, ↓reduceIte]
    refine ⟨fun _ => by omega, ?_⟩
    refine awp_loopM (α := Nat) (fun i => [(0, .c (.s (.str s))), (3, .c (.s (.int .i64 i)))]) (fun _ => []) (fun i => s.length - i) 0 (fun i => i ≤ bareN s) (Nat.zero_le _) (Weak.meets ?_) ?_
    · simp +contextual (maxSteps := 4000000) only [↓exT_call G39_48, ↓exT_callo G39_48, ↓exT_calloG G39_48, go_sem, Nat.reduceAdd, Nat.reduceSub, Nat.reduceMul, Nat.reduceEqDiff, Nat.reduceLeDiff, Nat.reduceLT, Nat.reduceBEq, Int.reduceLE, Int.reduceLT, Int.reduceToNat, Int.reduceNeg, Int.reduceAdd, Int.reduceSub, Int.reduceMul, ↓reduceIte]
      rfl
    intro x hx
    have hlen := run_le s
    have hstep := run_step hx
    by_cases hxl : x < s.length
    · have hxi : (x : Int) < (s.length : Int) := by omega
      have eg : s.getD x 0 = s[x] := by simp [hxl]
      cases hb : bareB (s.getD x 0) with
      | false =>
        have hall : s.all bareB = false := by
          cases h : s.all bareB with
          | false => rfl
          | true =>
            have := (List.all_eq_true.1 h) s[x] (List.getElem_mem hxl)
            rw [eg, this] at hb; cases hb
        simp +contextual (maxSteps := 4000000) only [↓exT_call G39_48, ↓exT_callo G39_48, ↓exT_calloG G39_48, hxi, hb, hall, go_sem, Nat.reduceAdd, Nat.reduceSub, Nat.reduceMul, Nat.reduceEqDiff, Nat.reduceLeDiff, Nat.reduceLT, Nat.reduceBEq, Int.reduceLE, Int.reduceLT, Int.reduceToNat, Int.reduceNeg, Int.reduceAdd, Int.reduceSub, Int.reduceMul, ↓reduceIte]
      | true =>
        have : x < bareN s := hstep.2 ⟨hxl, by rw [← eg]; exact hb⟩
        simp +contextual (maxSteps := 4000000) only [↓exT_call G39_48, ↓exT_callo G39_48, ↓exT_calloG G39_48, hxi, hb, go_sem, Nat.reduceAdd, Nat.reduceSub, Nat.reduceMul, Nat.reduceEqDiff, Nat.reduceLeDiff, Nat.reduceLT, Nat.reduceBEq, Int.reduceLE, Int.reduceLT, Int.reduceToNat, Int.reduceNeg, Int.reduceAdd, Int.reduceSub, Int.reduceMul, ↓reduceIte]
        exact ⟨by omega, x + 1, by omega, by omega, by omega⟩
    · have hxi : ¬ (x : Int) < (s.length : Int) := by omega
      have hall : s.all bareB = true := (run_eq_len s).1 (by omega)
      simp +contextual (maxSteps := 4000000) only [↓exT_call G39_48, ↓exT_callo G39_48, ↓exT_calloG G39_48, hxi, hall, go_sem, Nat.reduceAdd, Nat.reduceSub, Nat.reduceMul, Nat.reduceEqDiff, Nat.reduceLeDiff, Nat.reduceLT, Nat.reduceBEq, Int.reduceLE, Int.reduceLT, Int.reduceToNat, Int.reduceNeg, Int.reduceAdd, Int.reduceSub, Int.reduceMul, ↓reduceIte]

def digitG : List V → Option V
  | [.c (.s (.int .i64 n))] => if 0 ≤ n ∧ n < 16 then some (.c (.s (.int .u8 ((hexB.getD n.toNat 0).toNat : Int)))) else none
  | _ => none
theorem digitG_call {n : Int} {gt : Bool} {K : V → Prop} : callE digitG [.c (.s (.int .i64 n))] gt K = ((gt = true → 0 ≤ n ∧ n < 16) ∧ bindV (ifV gt (.c (.s (.int .u8 ((hexB.getD n.toNat 0).toNat : Int))))) K) := callE_of rfl
theorem digitG_callo {n : Int} {m : Nat → Option Ab.Obj} {locs : List Nat} {K : V → (Nat → Option Ab.Obj) → Prop} : callO digitG (some [.c (.s (.int .i64 n))]) m locs K = ((0 ≤ n ∧ n < 16) ∧ K (.c (.s (.int .u8 ((hexB.getD n.toNat 0).toNat : Int)))) (sealW m locs (.c (.s (.int .u8 ((hexB.getD n.toNat 0).toNat : Int)))))) := callO_of rfl
attribute [go_sem] digitG_call digitG_callo

def sc_ref01_digit : SC := .seq (.reg [⟨some 2, .mv, [.k (.c (.s (.int .u8 0)))], none⟩]) (.seq (.seq (.reg [⟨some 3, .mv, [.t 0], none⟩,
⟨some 4, .bin .lss, [.t 3, .k (.c (.s (.int .i64 10)))], none⟩]) (.cond (.t 4) (.seq (.reg [⟨some 5, .mv, [.t 0], none⟩,
⟨some 6, .bin .add, [.k (.c (.s (.int .i64 48))), .t 5], none⟩,
⟨some 7, .conv .u8, [.t 6], none⟩,
⟨some 2, .mv, [.t 7], none⟩]) (.ret)) (.skip))) (.seq (.reg [⟨some 8, .mv, [.t 0], none⟩,
⟨some 9, .bin .add, [.k (.c (.s (.int .i64 97))), .t 8], none⟩,
⟨some 10, .bin .sub, [.t 9, .k (.c (.s (.int .i64 10)))], none⟩,
⟨some 11, .conv .u8, [.t 10], none⟩,
⟨some 2, .mv, [.t 11], none⟩]) (.ret)))
noncomputable def G_ref01_digit : FuncId → Ab.Spec := noS
theorem G_ref01_digit_ok : ∀ f, Contract Try.prog f (G_ref01_digit f) := (noS_ok _)
set_option maxHeartbeats 16000000 in
set_option maxRecDepth 1000000 in
set_option linter.unusedSimpArgs false in
set_option linter.unusedVariables false in
theorem contract_ref01_digit : Contract Try.prog 40 (plain digitG) := by
  have hb : ∃ c, Try.f40.body = some c ∧ codeOk 12 c = true ∧ cCode Try.prog c = sc_ref01_digit := ⟨_, rfl, by kernel_rfl, by kernel_rfl⟩
  obtain ⟨c, hb1, hb2, hb3⟩ := hb
  refine contract_of (n := 1) G_ref01_digit_ok hB hD Try.func40 hb1 (by kernel_rfl) hb2 hb3 (rs := [.tmp 2]) (by kernel_rfl) (by decide) ?_ ?_
  · intro args x h
    unfold plain digitG at h
    split at h <;> simp_all
  · intro args r hr
    unfold plain digitG at hr
    split at hr
    case h_2 => cases hr
    rename_i n
    split at hr
    case isFalse => cases hr
    rename_i hc
    simp only [Option.map_some, Option.some.injEq] at hr
    subst hr
    unfold sc_ref01_digit
    obtain ⟨k, rfl⟩ : ∃ k : Nat, n = k := ⟨n.toNat, by omega⟩
    have hk : k < 16 := by omega
    have := (by decide +kernel : ∀ k : Fin 16, ((k.val : Int) < 10 → (48 + (k.val : Int)) % 256 = ((hexB.getD k.val 0).toNat : Int)) ∧ (¬ (k.val : Int) < 10 → (97 + (k.val : Int) - 10) % 256 = ((hexB.getD k.val 0).toNat : Int))) ⟨k, hk⟩
    simp only at this
    simp +contextual (maxSteps := 4000000) only [go_sem, Nat.reduceAdd, Nat.reduceSub, Nat.reduceMul, Nat.reduceEqDiff, Nat.reduceLeDiff, Nat.reduceLT, Nat.reduceBEq, Int.reduceLE, Int.reduceLT, Int.reduceToNat, Int.reduceNeg, Int.reduceAdd, Int.reduceSub, Int.reduceMul, ↓reduceIte]
    all_goals ((repeat' (first | with_reducible apply And.intro | intro)) <;> first | omega | (with_reducible rfl) | skip)

def valueG : List V → Option V
  | [.c (.s (.int .u8 c))] => if 0 ≤ c ∧ c < 256 then some (.c (.s (.int .i64 (hexV (UInt8.ofNat c.toNat))))) else none
  | _ => none
theorem valueG_call {c : Int} {gt : Bool} {K : V → Prop} : callE valueG [.c (.s (.int .u8 c))] gt K = ((gt = true → 0 ≤ c ∧ c < 256) ∧ bindV (ifV gt (.c (.s (.int .i64 (hexV (UInt8.ofNat c.toNat)))))) K) := callE_of rfl
theorem valueG_callo {c : Int} {m : Nat → Option Ab.Obj} {locs : List Nat} {K : V → (Nat → Option Ab.Obj) → Prop} : callO valueG (some [.c (.s (.int .u8 c))]) m locs K = ((0 ≤ c ∧ c < 256) ∧ K (.c (.s (.int .i64 (hexV (UInt8.ofNat c.toNat))))) (sealW m locs (.c (.s (.int .i64 (hexV (UInt8.ofNat c.toNat))))))) := callO_of rfl
attribute [go_sem] valueG_call valueG_callo


def rquoteG : List V → Option V
  | [.c (.s (.str s))] => if s.length < 1099511627776 then some (.c (.s (.str (quoteT s)))) else none
  | _ => none
theorem rquoteG_call {s : Bs} {gt : Bool} {K : V → Prop} : callE rquoteG [.c (.s (.str s))] gt K = ((gt = true → s.length < 1099511627776) ∧ bindV (ifV gt (.c (.s (.str (quoteT s))))) K) := callE_of rfl
theorem rquoteG_callo {s : Bs} {m : Nat → Option Ab.Obj} {locs : List Nat} {K : V → (Nat → Option Ab.Obj) → Prop} : callO rquoteG (some [.c (.s (.str s))]) m locs K = ((s.length < 1099511627776) ∧ K (.c (.s (.str (quoteT s)))) (sealW m locs (.c (.s (.str (quoteT s)))))) := callO_of rfl
attribute [go_sem] rquoteG_call rquoteG_callo

def sc_ref01_Quote : SC := .seq (.reg [⟨some 2, .mv, [.k (.c (.s (.str [])))], none⟩]) (.seq (.seq (.reg [⟨some 6, .mv, [.t 0], none⟩,
⟨some 7, .call 39, [.t 6], none⟩]) (.cond (.t 7) (.seq (.reg [⟨some 8, .mv, [.t 0], none⟩,
⟨some 2, .mv, [.t 8], none⟩]) (.ret)) (.skip))) (.seq (.reg [⟨some 9, .bslice 1 1 [.int .u8 0] [0], [.k (.c (.s (.int .u8 34)))], none⟩,
⟨some 3, .mv, [.t 9], none⟩]) (.seq (.seq (.reg [⟨some 4, .mv, [.k (.c (.s (.int .i64 0)))], none⟩]) (.block 0 (.loop (.seq (.seq (.reg [⟨some 10, .mv, [.t 4], none⟩,
⟨some 11, .mv, [.t 0], none⟩,
⟨some 12, .len true, [.t 11], none⟩,
⟨some 13, .bin .lss, [.t 10, .t 12], none⟩]) (.cond (.t 13) (.skip) (.exit 0))) (.seq (.block 1 (.seq (.reg [⟨some 16, .mv, [.t 0], none⟩,
⟨some 17, .mv, [.t 4], none⟩,
⟨some 18, .idx, [.t 16, .t 17], none⟩,
⟨some 5, .mv, [.t 18], none⟩]) (.seq (.reg [⟨some 19, .mv, [.t 5], none⟩,
⟨some 20, .bin .eql, [.t 19, .k (.c (.s (.int .u8 34)))], none⟩,
⟨some 21, .mv, [.t 20], none⟩,
⟨some 22, .mv, [.t 5], some (21, false)⟩,
⟨some 23, .bin .eql, [.t 22, .k (.c (.s (.int .u8 92)))], some (21, false)⟩,
⟨some 24, .pick, [.t 21, .k (.c (.s (.bool true))), .t 23], none⟩]) (.cond (.t 24) (.reg [⟨some 25, .mv, [.t 3], none⟩,
⟨some 26, .mv, [.t 5], none⟩,
⟨some 27, .bslice 1 2 [.int .u8 0] [0, 1], [.k (.c (.s (.int .u8 92))), .t 26], none⟩,
⟨some 28, .append false 1 1, [.t 25, .t 27], none⟩,
⟨some 3, .mv, [.t 28], none⟩]) (.seq (.reg [⟨some 29, .mv, [.t 5], none⟩,
⟨some 30, .bin .lss, [.t 29, .k (.c (.s (.int .u8 32)))], none⟩,
⟨some 31, .mv, [.t 30], none⟩,
⟨some 32, .mv, [.t 5], some (31, false)⟩,
⟨some 33, .bin .gtr, [.t 32, .k (.c (.s (.int .u8 126)))], some (31, false)⟩,
⟨some 34, .pick, [.t 31, .k (.c (.s (.bool true))), .t 33], none⟩]) (.cond (.t 34) (.reg [⟨some 35, .mv, [.t 3], none⟩,
⟨some 36, .mv, [.t 5], none⟩,
⟨some 37, .conv .i64, [.t 36], none⟩,
⟨some 38, .bin .quo, [.t 37, .k (.c (.s (.int .i64 16)))], none⟩,
⟨some 39, .call 40, [.t 38], none⟩,
⟨some 40, .mv, [.t 5], none⟩,
⟨some 41, .conv .i64, [.t 40], none⟩,
⟨some 42, .bin .rem, [.t 41, .k (.c (.s (.int .i64 16)))], none⟩,
⟨some 43, .call 40, [.t 42], none⟩,
⟨some 44, .bslice 1 4 [.int .u8 0] [0, 1, 2, 3], [.k (.c (.s (.int .u8 92))), .k (.c (.s (.int .u8 120))), .t 39, .t 43], none⟩,
⟨some 45, .append false 1 1, [.t 35, .t 44], none⟩,
⟨some 3, .mv, [.t 45], none⟩]) (.reg [⟨some 46, .mv, [.t 3], none⟩,
⟨some 47, .mv, [.t 5], none⟩,
⟨some 48, .bslice 1 1 [.int .u8 0] [0], [.t 47], none⟩,
⟨some 49, .append false 1 1, [.t 46, .t 48], none⟩,
⟨some 3, .mv, [.t 49], none⟩]))))))) (.reg [⟨some 14, .mv, [.t 4], none⟩,
⟨some 15, .bin .add, [.t 14, .k (.c (.s (.int .i64 1)))], none⟩,
⟨some 4, .mv, [.t 15], none⟩])))))) (.seq (.reg [⟨some 50, .mv, [.t 3], none⟩,
⟨some 51, .bslice 1 1 [.int .u8 0] [0], [.k (.c (.s (.int .u8 34)))], none⟩,
⟨some 52, .append false 1 1, [.t 50, .t 51], none⟩,
⟨some 53, .toStr, [.t 52], none⟩,
⟨some 2, .mv, [.t 53], none⟩]) (.ret)))))
noncomputable def G_ref01_Quote : FuncId → Ab.Spec := addS (addS (noS) 39 (plain rBareG)) 40 (plain digitG)
theorem G_ref01_Quote_ok : ∀ f, Contract Try.prog f (G_ref01_Quote f) := (addS_ok (addS_ok (noS_ok _) contract_ref01_Bare) contract_ref01_digit)
theorem G28_39 : G_ref01_Quote 39 = plain rBareG := by simp [G_ref01_Quote, addS]
theorem G28_40 : G_ref01_Quote 40 = plain digitG := by simp [G_ref01_Quote, addS]
set_option maxHeartbeats 16000000 in
set_option maxRecDepth 1000000 in
set_option linter.unusedSimpArgs false in
set_option linter.unusedVariables false in
theorem contract_ref01_Quote : Contract Try.prog 28 (plain rquoteG) := by
  have hb : ∃ c, Try.f28.body = some c ∧ codeOk 54 c = true ∧ cCode Try.prog c = sc_ref01_Quote := ⟨_, rfl, by kernel_rfl, by kernel_rfl⟩
  obtain ⟨c, hb1, hb2, hb3⟩ := hb
  refine contract_of (n := 1) G_ref01_Quote_ok hB hD Try.func28 hb1 (by kernel_rfl) hb2 hb3 (rs := [.tmp 2]) (by kernel_rfl) (by decide) ?_ ?_
  · intro args x h
    unfold plain rquoteG at h
    split at h <;> simp_all
  · intro args r hr
    unfold plain rquoteG at hr
    split at hr
    case h_2 => cases hr
    rename_i s
    split at hr
    case isFalse => cases hr
    rename_i hc
    simp only [Option.map_some, Option.some.injEq] at hr
    subst hr
    unfold sc_ref01_Quote
    simp +contextual (maxSteps := 4000000) only [↓exT_call G28_39, ↓exT_callo G28_39, ↓exT_calloG G28_39, ↓exT_call G28_40, ↓exT_callo G28_40, ↓exT_calloG G28_40, go_sem, Nat.reduceAdd, Nat.reduceSub, Nat.reduceMul, Nat.reduceEqDiff, Nat.reduceLeDiff, Nat.reduceLT, Nat.reduceBEq, Int.reduceLE, Int.reduceLT, Int.reduceToNat, Int.reduceNeg, Int.reduceAdd, Int.reduceSub, Int.reduceMul, ↓reduceIte]
    refine ⟨by omega, fun h => by unfold quoteT; rw [if_pos h], fun h => ?_⟩
    have hq : quoteT s = 34 :: (escs s ++ [34]) := by unfold quoteT; rw [h]; rfl
    refine awp_loopM (α := Nat) (fun i => [(0, .c (.s (.str s))), (3, .c (.own 9 (encs byteE (34 :: escs (s.take i))).length)), (4, .c (.s (.int .i64 i)))]) (fun i => [(9, .row 1 (encs byteE (34 :: escs (s.take i))))]) (fun i => s.length - i) 0 (fun i => i ≤ s.length) (Nat.zero_le _) (Weak.meets ?_) ?_
    · simp +contextual (maxSteps := 4000000) only [↓exT_call G28_39, ↓exT_callo G28_39, ↓exT_calloG G28_39, ↓exT_call G28_40, ↓exT_callo G28_40, ↓exT_calloG G28_40, go_sem, Nat.reduceAdd, Nat.reduceSub, Nat.reduceMul, Nat.reduceEqDiff, Nat.reduceLeDiff, Nat.reduceLT, Nat.reduceBEq, Int.reduceLE, Int.reduceLT, Int.reduceToNat, Int.reduceNeg, Int.reduceAdd, Int.reduceSub, Int.reduceMul, ↓reduceIte]
      simp [escs, encs, byteE]
    intro x hx
    have hle := escs_len (s.take x)
    simp only [List.length_take] at hle
    by_cases hxl : x < s.length
    · have hxi : (x : Int) < (s.length : Int) := by omega
      generalize hc : s.getD x 0 = c
      have ht : escs (s.take (x + 1)) = escs (s.take x) ++ escB c := by rw [escs_take s x hxl, hc]
      have e1 : ((c.toNat : Int) / 16).toNat = c.toNat / 16 := by omega
      have e2 : ((c.toNat : Int) % 16).toNat = c.toNat % 16 := by omega
      have hcl := c.toNat_lt
      by_cases h1 : c = 34 ∨ c = 92
      · have e : (decide (c = 34) || decide (c = 92)) = true := by simpa using h1
        have he : escB c = [92, c] := by unfold escB; rw [if_pos h1]
        simp +contextual (maxSteps := 4000000) only [↓exT_call G28_39, ↓exT_callo G28_39, ↓exT_calloG G28_39, ↓exT_call G28_40, ↓exT_callo G28_40, ↓exT_calloG G28_40, hxi, hc, e, go_sem, Nat.reduceAdd, Nat.reduceSub, Nat.reduceMul, Nat.reduceEqDiff, Nat.reduceLeDiff, Nat.reduceLT, Nat.reduceBEq, Int.reduceLE, Int.reduceLT, Int.reduceToNat, Int.reduceNeg, Int.reduceAdd, Int.reduceSub, Int.reduceMul, ↓reduceIte]
        all_goals ((repeat' (first | with_reducible apply And.intro | intro)) <;> first | omega | (with_reducible rfl) | skip)
        refine ⟨x + 1, ?_⟩
        rw [ht, he]
        simp [encs, byteE] <;> omega
      · have h1' : ¬ c = 34 ∧ ¬ c = 92 := ⟨fun h => h1 (.inl h), fun h => h1 (.inr h)⟩
        by_cases h2 : 32 ≤ c ∧ c ≤ 126
        · have h2' : ¬ c < 32 ∧ ¬ 126 < c := ⟨UInt8.not_lt.2 h2.1, UInt8.not_lt.2 h2.2⟩
          have he : escB c = [c] := by unfold escB; rw [if_neg h1, if_pos h2]
          simp +contextual (maxSteps := 4000000) only [↓exT_call G28_39, ↓exT_callo G28_39, ↓exT_calloG G28_39, ↓exT_call G28_40, ↓exT_callo G28_40, ↓exT_calloG G28_40, hxi, hc, h1'.1, h1'.2, h2'.1, h2'.2, go_sem, Nat.reduceAdd, Nat.reduceSub, Nat.reduceMul, Nat.reduceEqDiff, Nat.reduceLeDiff, Nat.reduceLT, Nat.reduceBEq, Int.reduceLE, Int.reduceLT, Int.reduceToNat, Int.reduceNeg, Int.reduceAdd, Int.reduceSub, Int.reduceMul, ↓reduceIte]
          all_goals ((repeat' (first | with_reducible apply And.intro | intro)) <;> first | omega | (with_reducible rfl) | skip)
          refine ⟨x + 1, ?_⟩
          rw [ht, he]
          simp [encs, byteE] <;> omega
        · have e : (decide (c < 32) || decide (126 < c)) = true := by
            simp only [Bool.or_eq_true, decide_eq_true_eq]
            by_cases h3 : c < 32
            · exact .inl h3
            · exact .inr (UInt8.not_le.1 fun h4 => h2 ⟨UInt8.not_lt.1 h3, h4⟩)
          have he : escB c = [92, 120, hexB.getD (c.toNat / 16) 0, hexB.getD (c.toNat % 16) 0] := by unfold escB; rw [if_neg h1, if_neg h2]
          simp +contextual (maxSteps := 4000000) only [↓exT_call G28_39, ↓exT_callo G28_39, ↓exT_calloG G28_39, ↓exT_call G28_40, ↓exT_callo G28_40, ↓exT_calloG G28_40, hxi, hc, h1'.1, h1'.2, e, e1, e2, go_sem, Nat.reduceAdd, Nat.reduceSub, Nat.reduceMul, Nat.reduceEqDiff, Nat.reduceLeDiff, Nat.reduceLT, Nat.reduceBEq, Int.reduceLE, Int.reduceLT, Int.reduceToNat, Int.reduceNeg, Int.reduceAdd, Int.reduceSub, Int.reduceMul, ↓reduceIte]
          all_goals ((repeat' (first | with_reducible apply And.intro | intro)) <;> first | omega | (with_reducible rfl) | skip)
          refine ⟨x + 1, ?_⟩
          rw [ht, he]
          simp [encs, byteE] <;> omega
    · have hxi : ¬ (x : Int) < (s.length : Int) := by omega
      have hxe : x = s.length := by omega
      subst hxe
      simp only [List.take_length] at *
      simp +contextual (maxSteps := 4000000) only [↓exT_call G28_39, ↓exT_callo G28_39, ↓exT_calloG G28_39, ↓exT_call G28_40, ↓exT_callo G28_40, ↓exT_calloG G28_40, hxi, hq, go_sem, Nat.reduceAdd, Nat.reduceSub, Nat.reduceMul, Nat.reduceEqDiff, Nat.reduceLeDiff, Nat.reduceLT, Nat.reduceBEq, Int.reduceLE, Int.reduceLT, Int.reduceToNat, Int.reduceNeg, Int.reduceAdd, Int.reduceSub, Int.reduceMul, ↓reduceIte]
      refine ⟨by omega, ?_⟩
      rfl

def rscanG : List V → Option V
  | [.c (.s (.str t)), .c (.s (.int .i64 a))] => if t.length < 9223372036854775806 then some (.tup [.inl (.s (.int .i64 (scanC t a).1)), .inl (.s (.bool (scanC t a).2))]) else none
  | _ => none
theorem rscanG_call {t : Bs} {a : Int} {gt : Bool} {K : V → Prop} : callE rscanG [.c (.s (.str t)), .c (.s (.int .i64 a))] gt K = ((gt = true → t.length < 9223372036854775806) ∧ bindV (ifV gt (.tup [.inl (.s (.int .i64 (scanC t a).1)), .inl (.s (.bool (scanC t a).2))])) K) := callE_of rfl
theorem rscanG_callo {t : Bs} {a : Int} {m : Nat → Option Ab.Obj} {locs : List Nat} {K : V → (Nat → Option Ab.Obj) → Prop} : callO rscanG (some [.c (.s (.str t)), .c (.s (.int .i64 a))]) m locs K = ((t.length < 9223372036854775806) ∧ K (.tup [.inl (.s (.int .i64 (scanC t a).1)), .inl (.s (.bool (scanC t a).2))]) (sealW m locs (.tup [.inl (.s (.int .i64 (scanC t a).1)), .inl (.s (.bool (scanC t a).2))]))) := callO_of rfl
attribute [go_sem] rscanG_call rscanG_callo

theorem run_at {t : Bs} {n i : Nat} (h1 : n ≤ i) (h2 : i ≤ n + bareN (t.drop n)) : (i < t.length ∧ bareB (t.getD i 0) = true) ↔ i < n + bareN (t.drop n) := by
  have := run_step (s := t.drop n) (i := i - n) (by omega)
  have e : i < n + bareN (t.drop n) ↔ i - n < bareN (t.drop n) := by omega
  rw [e, this]
  simp only [List.length_drop, List.getElem_drop]
  constructor
  · rintro ⟨h3, h4⟩
    refine ⟨by omega, ?_⟩
    have : n + (i - n) = i := by omega
    simp only [this]
    simpa [h3] using h4
  · rintro ⟨h3, h4⟩
    have e2 : n + (i - n) = i := by omega
    have h5 : i < t.length := by omega
    simp only [e2] at h4
    exact ⟨h5, by simpa [h5] using h4⟩

def runqG : List V → Option V
  | [.c (.s (.str t))] => if t.length < 1099511627776 then some (.tup [.inl (.s (.str (unquoteT t).1)), .inl (.s (.int .i64 (unquoteT t).2))]) else none
  | _ => none
theorem runqG_call {t : Bs} {gt : Bool} {K : V → Prop} : callE runqG [.c (.s (.str t))] gt K = ((gt = true → t.length < 1099511627776) ∧ bindV (ifV gt (.tup [.inl (.s (.str (unquoteT t).1)), .inl (.s (.int .i64 (unquoteT t).2))])) K) := callE_of rfl
theorem runqG_callo {t : Bs} {m : Nat → Option Ab.Obj} {locs : List Nat} {K : V → (Nat → Option Ab.Obj) → Prop} : callO runqG (some [.c (.s (.str t))]) m locs K = ((t.length < 1099511627776) ∧ K (.tup [.inl (.s (.str (unquoteT t).1)), .inl (.s (.int .i64 (unquoteT t).2))]) (sealW m locs (.tup [.inl (.s (.str (unquoteT t).1)), .inl (.s (.int .i64 (unquoteT t).2))]))) := callO_of rfl
attribute [go_sem] runqG_call runqG_callo


end Go.Proofs.Ytjjjgagmknlpmaa
