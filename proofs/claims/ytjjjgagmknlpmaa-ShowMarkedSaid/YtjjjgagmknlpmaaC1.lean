/- The functions of package word: what each hands back. -/
import Derived.Test.YtjjjgagmknlpmaaB1
import Derived.Test.YtjjjgagmknlpmaaB2
import Derived.Test.YtjjjgagmknlpmaaAb28
import Derived.Test.YtjjjgagmknlpmaaW1
set_option linter.all false
namespace Go.Proofs.Ytjjjgagmknlpmaa
open Go Go.Ab Go.Proofs Go.Fs
theorem hB : BldOK Try.prog := bldOK bldW
theorem hD : DrawOK Try.prog := drawOK (by kernel_rfl)
theorem idxG_call {s : List UInt8} {c : Int} {gt : Bool} {K : V → Prop} : callE idxG [.c (.s (.str s)), .c (.s (.int .u8 c))] gt K = ((gt = true → 0 ≤ c ∧ c < 256) ∧ bindV (ifV gt (.c (.s (.int .i64 (Lib.indexByte s (UInt8.ofNat c.toNat)))))) K) := callE_of rfl
theorem idxG_callo {s : List UInt8} {c : Int} {m : Nat → Option Ab.Obj} {locs : List Nat} {K : V → (Nat → Option Ab.Obj) → Prop} : callO idxG (some [.c (.s (.str s)), .c (.s (.int .u8 c))]) m locs K = ((0 ≤ c ∧ c < 256) ∧ K (.c (.s (.int .i64 (Lib.indexByte s (UInt8.ofNat c.toNat))))) (sealW m locs (.c (.s (.int .i64 (Lib.indexByte s (UInt8.ofNat c.toNat))))))) := callO_of rfl
def idx2G : List V → Option V
  | [.c (.s (.str s)), .c (.s (.int .u8 c))] => if 0 ≤ c ∧ c < 256 then some (.c (.s (.int .i64 (Lib.indexByte s (UInt8.ofNat c.toNat))))) else none
  | _ => none
theorem idx2G_call {s : Bs} {c : Int} {gt : Bool} {K : V → Prop} : callE idx2G [.c (.s (.str s)), .c (.s (.int .u8 c))] gt K = ((gt = true → 0 ≤ c ∧ c < 256) ∧ bindV (ifV gt (.c (.s (.int .i64 (Lib.indexByte s (UInt8.ofNat c.toNat)))))) K) := callE_of rfl
theorem idx2G_callo {s : Bs} {c : Int} {m : Nat → Option Ab.Obj} {locs : List Nat} {K : V → (Nat → Option Ab.Obj) → Prop} : callO idx2G (some [.c (.s (.str s)), .c (.s (.int .u8 c))]) m locs K = ((0 ≤ c ∧ c < 256) ∧ K (.c (.s (.int .i64 (Lib.indexByte s (UInt8.ofNat c.toNat))))) (sealW m locs (.c (.s (.int .i64 (Lib.indexByte s (UInt8.ofNat c.toNat))))))) := callO_of rfl
attribute [go_sem] idx2G_call idx2G_callo

def sc_strings_IndexByte : SC := .seq (.reg [⟨some 4, .mv, [.k (.c (.s (.int .i64 0)))], none⟩]) (.seq (.reg [⟨some 5, .mv, [.t 0], none⟩,
⟨some 6, .mv, [.t 1], none⟩,
⟨some 7, .call 56, [.t 5, .t 6], none⟩,
⟨some 4, .mv, [.t 7], none⟩]) (.ret))
noncomputable def G_strings_IndexByte : FuncId → Ab.Spec := addS (noS) 56 (plain idxG)
theorem G_strings_IndexByte_ok : ∀ f, Contract Try.prog f (G_strings_IndexByte f) := (addS_ok (noS_ok _) contract_internal_stringslite_IndexByte)
theorem G54_56 : G_strings_IndexByte 56 = plain idxG := by simp [G_strings_IndexByte, addS]
set_option maxHeartbeats 16000000 in
set_option maxRecDepth 1000000 in
set_option linter.unusedSimpArgs false in
set_option linter.unusedVariables false in
theorem contract_strings_IndexByte : Contract Try.prog 54 (plain idx2G) := by
  have hb : ∃ c, Try.f54.body = some c ∧ codeOk 8 c = true ∧ cCode Try.prog c = sc_strings_IndexByte := ⟨_, rfl, by kernel_rfl, by kernel_rfl⟩
  obtain ⟨c, hb1, hb2, hb3⟩ := hb
  refine contract_of (n := 2) G_strings_IndexByte_ok hB hD Try.func54 hb1 (by kernel_rfl) hb2 hb3 (rs := [.tmp 4]) (by kernel_rfl) (by decide) ?_ ?_
  · intro args x h
    unfold plain idx2G at h
    split at h <;> simp_all
  · intro args r hr
    unfold plain idx2G at hr
    split at hr
    case h_2 => cases hr
    rename_i s c
    split at hr
    case isFalse => cases hr
    rename_i hc
    simp only [Option.map_some, Option.some.injEq] at hr
    subst hr
    unfold sc_strings_IndexByte
    simp +contextual (maxSteps := 4000000) only [↓exT_call G54_56, ↓exT_callo G54_56, ↓exT_calloG G54_56, idxG_call, idxG_callo, hc.1, hc.2, go_sem, Nat.reduceAdd, Nat.reduceSub, Nat.reduceMul, Nat.reduceEqDiff, Nat.reduceLeDiff, Nat.reduceLT, Nat.reduceBEq, Int.reduceLE, Int.reduceLT, Int.reduceToNat, Int.reduceNeg, Int.reduceAdd, Int.reduceSub, Int.reduceMul, ↓reduceIte]

theorem idx_plain (c : UInt8) : decide (0 ≤ Lib.indexByte [45, 95, 46, 47, 58, 42] c) = [45, 95, 46, 47, 58, 42].contains c := by
  have := byte_all (p := fun c => decide (decide (0 ≤ Lib.indexByte [45, 95, 46, 47, 58, 42] c) = [45, 95, 46, 47, 58, 42].contains c)) (by decide +kernel) c
  exact of_decide_eq_true this
def bareG : List V → Option V
  | [.c (.s (.int .u8 c))] => if 0 ≤ c ∧ c < 256 then some (.c (.s (.bool (bareB (UInt8.ofNat c.toNat))))) else none
  | _ => none
theorem bareG_call {c : Int} {gt : Bool} {K : V → Prop} : callE bareG [.c (.s (.int .u8 c))] gt K = ((gt = true → 0 ≤ c ∧ c < 256) ∧ bindV (ifV gt (.c (.s (.bool (bareB (UInt8.ofNat c.toNat)))))) K) := callE_of rfl
theorem bareG_callo {c : Int} {m : Nat → Option Ab.Obj} {locs : List Nat} {K : V → (Nat → Option Ab.Obj) → Prop} : callO bareG (some [.c (.s (.int .u8 c))]) m locs K = ((0 ≤ c ∧ c < 256) ∧ K (.c (.s (.bool (bareB (UInt8.ofNat c.toNat))))) (sealW m locs (.c (.s (.bool (bareB (UInt8.ofNat c.toNat))))))) := callO_of rfl
attribute [go_sem] bareG_call bareG_callo

def sc_word_bare : SC := .seq (.reg [⟨some 2, .mv, [.k (.c (.s (.bool false)))], none⟩]) (.seq (.reg [⟨some 3, .mv, [.t 0], none⟩,
⟨some 4, .bin .geq, [.t 3, .k (.c (.s (.int .u8 97)))], none⟩,
⟨some 5, .mv, [.t 4], none⟩,
⟨some 6, .mv, [.t 0], some (5, true)⟩,
⟨some 7, .bin .leq, [.t 6, .k (.c (.s (.int .u8 122)))], some (5, true)⟩,
⟨some 8, .pick, [.t 5, .t 7, .k (.c (.s (.bool false)))], none⟩,
⟨some 9, .mv, [.t 8], none⟩,
⟨some 10, .mv, [.t 0], some (9, false)⟩,
⟨some 11, .bin .geq, [.t 10, .k (.c (.s (.int .u8 65)))], some (9, false)⟩,
⟨some 12, .mv, [.t 11], some (9, false)⟩,
⟨some 13, .mv, [.t 0], some (12, true)⟩,
⟨some 14, .bin .leq, [.t 13, .k (.c (.s (.int .u8 90)))], some (12, true)⟩,
⟨some 15, .pick, [.t 12, .t 14, .k (.c (.s (.bool false)))], some (9, false)⟩,
⟨some 16, .pick, [.t 9, .k (.c (.s (.bool true))), .t 15], none⟩,
⟨some 17, .mv, [.t 16], none⟩,
⟨some 18, .mv, [.t 0], some (17, false)⟩,
⟨some 19, .bin .geq, [.t 18, .k (.c (.s (.int .u8 48)))], some (17, false)⟩,
⟨some 20, .mv, [.t 19], some (17, false)⟩,
⟨some 21, .mv, [.t 0], some (20, true)⟩,
⟨some 22, .bin .leq, [.t 21, .k (.c (.s (.int .u8 57)))], some (20, true)⟩,
⟨some 23, .pick, [.t 20, .t 22, .k (.c (.s (.bool false)))], some (17, false)⟩,
⟨some 24, .pick, [.t 17, .k (.c (.s (.bool true))), .t 23], none⟩,
⟨some 25, .mv, [.t 24], none⟩,
⟨some 26, .mv, [.t 0], some (25, false)⟩,
⟨some 27, .call 54, [.k (.c (.s (.str [45, 95, 46, 47, 58, 42]))), .t 26], some (25, false)⟩,
⟨some 28, .bin .geq, [.t 27, .k (.c (.s (.int .i64 0)))], some (25, false)⟩,
⟨some 29, .pick, [.t 25, .k (.c (.s (.bool true))), .t 28], none⟩,
⟨some 2, .mv, [.t 29], none⟩]) (.ret))
noncomputable def G_word_bare : FuncId → Ab.Spec := addS (noS) 54 (plain idx2G)
theorem G_word_bare_ok : ∀ f, Contract Try.prog f (G_word_bare f) := (addS_ok (noS_ok _) contract_strings_IndexByte)
theorem G49_54 : G_word_bare 54 = plain idx2G := by simp [G_word_bare, addS]
set_option maxHeartbeats 16000000 in
set_option maxRecDepth 1000000 in
set_option linter.unusedSimpArgs false in
set_option linter.unusedVariables false in
theorem contract_word_bare : Contract Try.prog 49 (plain bareG) := by
  have hb : ∃ c, Try.f49.body = some c ∧ codeOk 30 c = true ∧ cCode Try.prog c = sc_word_bare := ⟨_, rfl, by kernel_rfl, by kernel_rfl⟩
  obtain ⟨c, hb1, hb2, hb3⟩ := hb
  refine contract_of (n := 1) G_word_bare_ok hB hD Try.func49 hb1 (by kernel_rfl) hb2 hb3 (rs := [.tmp 2]) (by kernel_rfl) (by decide) ?_ ?_
  · intro args x h
    unfold plain bareG at h
    split at h <;> simp_all
  · intro args r hr
    unfold plain bareG at hr
    split at hr
    case h_2 => cases hr
    rename_i c
    split at hr
    case isFalse => cases hr
    rename_i hc
    simp only [Option.map_some, Option.some.injEq] at hr
    subst hr
    unfold sc_word_bare
    obtain ⟨x, rfl⟩ := byte_ex hc
    simp +contextual (maxSteps := 4000000) only [↓exT_call G49_54, ↓exT_callo G49_54, ↓exT_calloG G49_54, idx_plain, go_sem, Nat.reduceAdd, Nat.reduceSub, Nat.reduceMul, Nat.reduceEqDiff, Nat.reduceLeDiff, Nat.reduceLT, Nat.reduceBEq, Int.reduceLE, Int.reduceLT, Int.reduceToNat, Int.reduceNeg, Int.reduceAdd, Int.reduceSub, Int.reduceMul, ↓reduceIte]
    clear hc
    induction x using byte_ind with
    | h n => revert n; decide +kernel

def runG : List V → Option V
  | [.c (.s (.str s))] => if s.length < 9223372036854775807 then some (.c (.s (.int .i64 (bareN s)))) else none
  | _ => none
theorem runG_call {s : Bs} {gt : Bool} {K : V → Prop} : callE runG [.c (.s (.str s))] gt K = ((gt = true → s.length < 9223372036854775807) ∧ bindV (ifV gt (.c (.s (.int .i64 (bareN s))))) K) := callE_of rfl
theorem runG_callo {s : Bs} {m : Nat → Option Ab.Obj} {locs : List Nat} {K : V → (Nat → Option Ab.Obj) → Prop} : callO runG (some [.c (.s (.str s))]) m locs K = ((s.length < 9223372036854775807) ∧ K (.c (.s (.int .i64 (bareN s)))) (sealW m locs (.c (.s (.int .i64 (bareN s)))))) := callO_of rfl
attribute [go_sem] runG_call runG_callo

theorem run_step {s : Bs} {i : Nat} (h : i ≤ bareN s) : (i < bareN s ↔ ∃ hi : i < s.length, bareB s[i] = true) := by
  unfold bareN at h ⊢
  induction s generalizing i with
  | nil => simp
  | cons c s ih =>
    simp only [List.takeWhile_cons] at h ⊢
    cases hb : bareB c with
    | true =>
      rw [hb] at h
      simp only [if_true, List.length_cons] at h ⊢
      cases i with
      | zero => simp [hb]
      | succ i =>
        have := ih (i := i) (by omega)
        simp only [Nat.add_lt_add_iff_right, List.getElem_cons_succ]
        exact this
    | false =>
      rw [hb] at h
      simp at h
      subst h
      simp [hb]
def sc_word_run : SC := .seq (.reg [⟨some 2, .mv, [.k (.c (.s (.int .i64 0)))], none⟩]) (.seq (.reg [⟨some 3, .mv, [.k (.c (.s (.int .i64 0)))], none⟩]) (.seq (.block 0 (.loop (.seq (.seq (.reg [⟨some 4, .mv, [.t 3], none⟩,
⟨some 5, .mv, [.t 0], none⟩,
⟨some 6, .len true, [.t 5], none⟩,
⟨some 7, .bin .lss, [.t 4, .t 6], none⟩,
⟨some 8, .mv, [.t 7], none⟩,
⟨some 9, .mv, [.t 0], some (8, true)⟩,
⟨some 10, .mv, [.t 3], some (8, true)⟩,
⟨some 11, .idx, [.t 9, .t 10], some (8, true)⟩,
⟨some 12, .call 49, [.t 11], some (8, true)⟩,
⟨some 13, .pick, [.t 8, .t 12, .k (.c (.s (.bool false)))], none⟩]) (.cond (.t 13) (.skip) (.exit 0))) (.block 1 (.reg [⟨some 14, .mv, [.t 3], none⟩,
⟨some 15, .bin .add, [.t 14, .k (.c (.s (.int .i64 1)))], none⟩,
⟨some 3, .mv, [.t 15], none⟩]))))) (.seq (.reg [⟨some 16, .mv, [.t 3], none⟩,
⟨some 2, .mv, [.t 16], none⟩]) (.ret))))
noncomputable def G_word_run : FuncId → Ab.Spec := addS (noS) 49 (plain bareG)
theorem G_word_run_ok : ∀ f, Contract Try.prog f (G_word_run f) := (addS_ok (noS_ok _) contract_word_bare)
theorem G41_49 : G_word_run 49 = plain bareG := by simp [G_word_run, addS]
set_option maxHeartbeats 16000000 in
set_option maxRecDepth 1000000 in
set_option linter.unusedSimpArgs false in
set_option linter.unusedVariables false in
theorem contract_word_run : Contract Try.prog 41 (plain runG) := by
  have hb : ∃ c, Try.f41.body = some c ∧ codeOk 17 c = true ∧ cCode Try.prog c = sc_word_run := ⟨_, rfl, by kernel_rfl, by kernel_rfl⟩
  obtain ⟨c, hb1, hb2, hb3⟩ := hb
  refine contract_of (n := 1) G_word_run_ok hB hD Try.func41 hb1 (by kernel_rfl) hb2 hb3 (rs := [.tmp 2]) (by kernel_rfl) (by decide) ?_ ?_
  · intro args x h
    unfold plain runG at h
    split at h <;> simp_all
  · intro args r hr
    unfold plain runG at hr
    split at hr
    case h_2 => cases hr
    rename_i s
    split at hr
    case isFalse => cases hr
    rename_i hc
    simp only [Option.map_some, Option.some.injEq] at hr
    subst hr
    unfold sc_word_run
    simp +contextual (maxSteps := 4000000) only [↓exT_call G41_49, ↓exT_callo G41_49, ↓exT_calloG G41_49, go_sem, Nat.reduceAdd, Nat.reduceSub, Nat.reduceMul, Nat.reduceEqDiff, Nat.reduceLeDiff, Nat.reduceLT, Nat.reduceBEq, Int.reduceLE, Int.reduceLT, Int.reduceToNat, Int.reduceNeg, Int.reduceAdd, Int.reduceSub, Int.reduceMul, ↓reduceIte]
    refine awp_loopM (α := Nat) (fun i => [(0, .c (.s (.str s))), (3, .c (.s (.int .i64 i)))]) (fun _ => []) (fun i => s.length - i) 0 (fun i => i ≤ bareN s) (Nat.zero_le _) (Weak.meets ?_) ?_
    · simp +contextual (maxSteps := 4000000) only [↓exT_call G41_49, ↓exT_callo G41_49, ↓exT_calloG G41_49, go_sem, Nat.reduceAdd, Nat.reduceSub, Nat.reduceMul, Nat.reduceEqDiff, Nat.reduceLeDiff, Nat.reduceLT, Nat.reduceBEq, Int.reduceLE, Int.reduceLT, Int.reduceToNat, Int.reduceNeg, Int.reduceAdd, Int.reduceSub, Int.reduceMul, ↓reduceIte]
      rfl
    intro x hx
    simp +contextual (maxSteps := 4000000) only [↓exT_call G41_49, ↓exT_callo G41_49, ↓exT_calloG G41_49, go_sem, Nat.reduceAdd, Nat.reduceSub, Nat.reduceMul, Nat.reduceEqDiff, Nat.reduceLeDiff, Nat.reduceLT, Nat.reduceBEq, Int.reduceLE, Int.reduceLT, Int.reduceToNat, Int.reduceNeg, Int.reduceAdd, Int.reduceSub, Int.reduceMul, ↓reduceIte]
    have hlen := run_le s
    have key : ((x : Int) < (s.length : Int) ∧ bareB (s.getD x 0) = true) ↔ x < bareN s := by
      rw [run_step hx]
      constructor
      · rintro ⟨h1, h2⟩
        have hi : x < s.length := by omega
        exact ⟨hi, by simpa [hi] using h2⟩
      · rintro ⟨hi, h2⟩
        exact ⟨by omega, by simpa [hi] using h2⟩
    have key2 : (decide ((x : Int) < (s.length : Int)) && bareB (s.getD x 0)) = decide (x < bareN s) := by
      rw [Bool.eq_iff_iff, Bool.and_eq_true, decide_eq_true_eq, decide_eq_true_eq]; exact key
    refine ⟨fun h1 => ⟨⟨by omega, by omega⟩, x + 1, ?_, ?_, by omega⟩, fun h => ?_⟩
    · have := key.1 h1; omega
    · have := key.1 h1; omega
    · rw [key2] at h
      have := of_decide_eq_false h
      omega

def prefG : List V → Option V
  | [.c (.s (.str s)), .c (.s (.str t))] => some (.c (.s (.bool (decide (t.length ≤ s.length) && decide (s.take t.length = t)))))
  | _ => none
theorem prefG_call {s t : Bs} {gt : Bool} {K : V → Prop} : callE prefG [.c (.s (.str s)), .c (.s (.str t))] gt K = bindV (ifV gt (.c (.s (.bool (decide (t.length ≤ s.length) && decide (s.take t.length = t)))))) K := callE_all rfl
theorem prefG_callo {s t : Bs} {m : Nat → Option Ab.Obj} {locs : List Nat} {K : V → (Nat → Option Ab.Obj) → Prop} : callO prefG (some [.c (.s (.str s)), .c (.s (.str t))]) m locs K = K (.c (.s (.bool (decide (t.length ≤ s.length) && decide (s.take t.length = t))))) (sealW m locs (.c (.s (.bool (decide (t.length ≤ s.length) && decide (s.take t.length = t)))))) := callO_all rfl
attribute [go_sem] prefG_call prefG_callo

def sc_internal_stringslite_HasPrefix : SC := .seq (.reg [⟨some 4, .mv, [.k (.c (.s (.bool false)))], none⟩]) (.seq (.reg [⟨some 5, .mv, [.t 0], none⟩,
⟨some 6, .len true, [.t 5], none⟩,
⟨some 7, .mv, [.t 1], none⟩,
⟨some 8, .len true, [.t 7], none⟩,
⟨some 9, .bin .geq, [.t 6, .t 8], none⟩,
⟨some 10, .mv, [.t 9], none⟩,
⟨some 11, .mv, [.t 0], some (10, true)⟩,
⟨some 12, .mv, [.t 1], some (10, true)⟩,
⟨some 13, .len true, [.t 12], some (10, true)⟩,
⟨some 14, .slcS false true, [.t 11, .t 13], some (10, true)⟩,
⟨some 15, .mv, [.t 1], some (10, true)⟩,
⟨some 16, .bin .eql, [.t 14, .t 15], some (10, true)⟩,
⟨some 17, .pick, [.t 10, .t 16, .k (.c (.s (.bool false)))], none⟩,
⟨some 4, .mv, [.t 17], none⟩]) (.ret))
noncomputable def G_internal_stringslite_HasPrefix : FuncId → Ab.Spec := noS
theorem G_internal_stringslite_HasPrefix_ok : ∀ f, Contract Try.prog f (G_internal_stringslite_HasPrefix f) := (noS_ok _)
set_option maxHeartbeats 16000000 in
set_option maxRecDepth 1000000 in
set_option linter.unusedSimpArgs false in
set_option linter.unusedVariables false in
theorem contract_internal_stringslite_HasPrefix : Contract Try.prog 52 (plain prefG) := by
  have hb : ∃ c, Try.f52.body = some c ∧ codeOk 18 c = true ∧ cCode Try.prog c = sc_internal_stringslite_HasPrefix := ⟨_, rfl, by kernel_rfl, by kernel_rfl⟩
  obtain ⟨c, hb1, hb2, hb3⟩ := hb
  refine contract_of (n := 2) G_internal_stringslite_HasPrefix_ok hB hD Try.func52 hb1 (by kernel_rfl) hb2 hb3 (rs := [.tmp 4]) (by kernel_rfl) (by decide) ?_ ?_
  · intro args x h
    unfold plain prefG at h
    split at h <;> simp_all
  · intro args r hr
    unfold plain prefG at hr
    split at hr
    case h_2 => cases hr
    rename_i s t
    simp only [Option.map_some, Option.some.injEq] at hr
    subst hr
    unfold sc_internal_stringslite_HasPrefix
    simp +contextual (maxSteps := 4000000) only [go_sem, Nat.reduceAdd, Nat.reduceSub, Nat.reduceMul, Nat.reduceEqDiff, Nat.reduceLeDiff, Nat.reduceLT, Nat.reduceBEq, Int.reduceLE, Int.reduceLT, Int.reduceToNat, Int.reduceNeg, Int.reduceAdd, Int.reduceSub, Int.reduceMul, ↓reduceIte]
    simp

def pref2G : List V → Option V
  | [.c (.s (.str s)), .c (.s (.str t))] => some (.c (.s (.bool (decide (t.length ≤ s.length) && decide (s.take t.length = t)))))
  | _ => none
theorem pref2G_call {s t : Bs} {gt : Bool} {K : V → Prop} : callE pref2G [.c (.s (.str s)), .c (.s (.str t))] gt K = bindV (ifV gt (.c (.s (.bool (decide (t.length ≤ s.length) && decide (s.take t.length = t)))))) K := callE_all rfl
theorem pref2G_callo {s t : Bs} {m : Nat → Option Ab.Obj} {locs : List Nat} {K : V → (Nat → Option Ab.Obj) → Prop} : callO pref2G (some [.c (.s (.str s)), .c (.s (.str t))]) m locs K = K (.c (.s (.bool (decide (t.length ≤ s.length) && decide (s.take t.length = t))))) (sealW m locs (.c (.s (.bool (decide (t.length ≤ s.length) && decide (s.take t.length = t)))))) := callO_all rfl
attribute [go_sem] pref2G_call pref2G_callo

def sc_strings_HasPrefix : SC := .seq (.reg [⟨some 4, .mv, [.k (.c (.s (.bool false)))], none⟩]) (.seq (.reg [⟨some 5, .mv, [.t 0], none⟩,
⟨some 6, .mv, [.t 1], none⟩,
⟨some 7, .call 52, [.t 5, .t 6], none⟩,
⟨some 4, .mv, [.t 7], none⟩]) (.ret))
noncomputable def G_strings_HasPrefix : FuncId → Ab.Spec := addS (noS) 52 (plain prefG)
theorem G_strings_HasPrefix_ok : ∀ f, Contract Try.prog f (G_strings_HasPrefix f) := (addS_ok (noS_ok _) contract_internal_stringslite_HasPrefix)
theorem G45_52 : G_strings_HasPrefix 52 = plain prefG := by simp [G_strings_HasPrefix, addS]
set_option maxHeartbeats 16000000 in
set_option maxRecDepth 1000000 in
set_option linter.unusedSimpArgs false in
set_option linter.unusedVariables false in
theorem contract_strings_HasPrefix : Contract Try.prog 45 (plain pref2G) := by
  have hb : ∃ c, Try.f45.body = some c ∧ codeOk 8 c = true ∧ cCode Try.prog c = sc_strings_HasPrefix := ⟨_, rfl, by kernel_rfl, by kernel_rfl⟩
  obtain ⟨c, hb1, hb2, hb3⟩ := hb
  refine contract_of (n := 2) G_strings_HasPrefix_ok hB hD Try.func45 hb1 (by kernel_rfl) hb2 hb3 (rs := [.tmp 4]) (by kernel_rfl) (by decide) ?_ ?_
  · intro args x h
    unfold plain pref2G at h
    split at h <;> simp_all
  · intro args r hr
    unfold plain pref2G at hr
    split at hr
    case h_2 => cases hr
    rename_i s t
    simp only [Option.map_some, Option.some.injEq] at hr
    subst hr
    unfold sc_strings_HasPrefix
    simp +contextual (maxSteps := 4000000) only [↓exT_call G45_52, ↓exT_callo G45_52, ↓exT_calloG G45_52, go_sem, Nat.reduceAdd, Nat.reduceSub, Nat.reduceMul, Nat.reduceEqDiff, Nat.reduceLeDiff, Nat.reduceLT, Nat.reduceBEq, Int.reduceLE, Int.reduceLT, Int.reduceToNat, Int.reduceNeg, Int.reduceAdd, Int.reduceSub, Int.reduceMul, ↓reduceIte]

def markG : List V → Option V
  | [.c (.s (.str s))] => some (.c (.s (.bool (markC s))))
  | _ => none
theorem markG_call {s : Bs} {gt : Bool} {K : V → Prop} : callE markG [.c (.s (.str s))] gt K = bindV (ifV gt (.c (.s (.bool (markC s))))) K := callE_all rfl
theorem markG_callo {s : Bs} {m : Nat → Option Ab.Obj} {locs : List Nat} {K : V → (Nat → Option Ab.Obj) → Prop} : callO markG (some [.c (.s (.str s))]) m locs K = K (.c (.s (.bool (markC s)))) (sealW m locs (.c (.s (.bool (markC s))))) := callO_all rfl
attribute [go_sem] markG_call markG_callo

def sc_word_mark : SC := .seq (.reg [⟨some 2, .mv, [.k (.c (.s (.bool false)))], none⟩]) (.seq (.reg [⟨some 3, .mv, [.t 0], none⟩,
⟨some 4, .bin .eql, [.t 3, .k (.c (.s (.str [105, 110, 97, 99, 116, 105, 118, 101, 58])))], none⟩,
⟨some 5, .mv, [.t 4], none⟩,
⟨some 6, .mv, [.t 0], some (5, false)⟩,
⟨some 7, .bin .eql, [.t 6, .k (.c (.s (.str [112, 114, 111, 116, 101, 99, 116, 58])))], some (5, false)⟩,
⟨some 8, .pick, [.t 5, .k (.c (.s (.bool true))), .t 7], none⟩,
⟨some 9, .mv, [.t 8], none⟩,
⟨some 10, .mv, [.t 0], some (9, false)⟩,
⟨some 11, .call 45, [.t 10, .k (.c (.s (.str [47, 42])))], some (9, false)⟩,
⟨some 12, .pick, [.t 9, .k (.c (.s (.bool true))), .t 11], none⟩,
⟨some 2, .mv, [.t 12], none⟩]) (.ret))
noncomputable def G_word_mark : FuncId → Ab.Spec := addS (noS) 45 (plain pref2G)
theorem G_word_mark_ok : ∀ f, Contract Try.prog f (G_word_mark f) := (addS_ok (noS_ok _) contract_strings_HasPrefix)
theorem G42_45 : G_word_mark 45 = plain pref2G := by simp [G_word_mark, addS]
set_option maxHeartbeats 16000000 in
set_option maxRecDepth 1000000 in
set_option linter.unusedSimpArgs false in
set_option linter.unusedVariables false in
theorem contract_word_mark : Contract Try.prog 42 (plain markG) := by
  have hb : ∃ c, Try.f42.body = some c ∧ codeOk 13 c = true ∧ cCode Try.prog c = sc_word_mark := ⟨_, rfl, by kernel_rfl, by kernel_rfl⟩
  obtain ⟨c, hb1, hb2, hb3⟩ := hb
  refine contract_of (n := 1) G_word_mark_ok hB hD Try.func42 hb1 (by kernel_rfl) hb2 hb3 (rs := [.tmp 2]) (by kernel_rfl) (by decide) ?_ ?_
  · intro args x h
    unfold plain markG at h
    split at h <;> simp_all
  · intro args r hr
    unfold plain markG at hr
    split at hr
    case h_2 => cases hr
    rename_i s
    simp only [Option.map_some, Option.some.injEq] at hr
    subst hr
    unfold sc_word_mark
    simp +contextual (maxSteps := 4000000) only [↓exT_call G42_45, ↓exT_callo G42_45, ↓exT_calloG G42_45, go_sem, Nat.reduceAdd, Nat.reduceSub, Nat.reduceMul, Nat.reduceEqDiff, Nat.reduceLeDiff, Nat.reduceLT, Nat.reduceBEq, Int.reduceLE, Int.reduceLT, Int.reduceToNat, Int.reduceNeg, Int.reduceAdd, Int.reduceSub, Int.reduceMul, ↓reduceIte]
    rfl

def plainG : List V → Option V
  | [.c (.s (.str s))] => if s.length < 9223372036854775807 then some (.c (.s (.bool (plainC s)))) else none
  | _ => none
theorem plainG_call {s : Bs} {gt : Bool} {K : V → Prop} : callE plainG [.c (.s (.str s))] gt K = ((gt = true → s.length < 9223372036854775807) ∧ bindV (ifV gt (.c (.s (.bool (plainC s))))) K) := callE_of rfl
theorem plainG_callo {s : Bs} {m : Nat → Option Ab.Obj} {locs : List Nat} {K : V → (Nat → Option Ab.Obj) → Prop} : callO plainG (some [.c (.s (.str s))]) m locs K = ((s.length < 9223372036854775807) ∧ K (.c (.s (.bool (plainC s)))) (sealW m locs (.c (.s (.bool (plainC s)))))) := callO_of rfl
attribute [go_sem] plainG_call plainG_callo

theorem len_bare (s : Bs) : decide ((bareN s : Int) = (s.length : Int)) = s.all bareB := by
  rw [Bool.eq_iff_iff, decide_eq_true_eq, ← run_eq_len]; omega
def sc_word_Plain : SC := .seq (.reg [⟨some 2, .mv, [.k (.c (.s (.bool false)))], none⟩]) (.seq (.reg [⟨some 3, .mv, [.t 0], none⟩,
⟨some 4, .bin .neq, [.t 3, .k (.c (.s (.str [])))], none⟩,
⟨some 5, .mv, [.t 4], none⟩,
⟨some 6, .mv, [.t 0], some (5, true)⟩,
⟨some 7, .len true, [.t 6], some (5, true)⟩,
⟨some 8, .bin .leq, [.t 7, .k (.c (.s (.int .i64 40)))], some (5, true)⟩,
⟨some 9, .pick, [.t 5, .t 8, .k (.c (.s (.bool false)))], none⟩,
⟨some 10, .mv, [.t 9], none⟩,
⟨some 11, .mv, [.t 0], some (10, true)⟩,
⟨some 12, .call 41, [.t 11], some (10, true)⟩,
⟨some 13, .mv, [.t 0], some (10, true)⟩,
⟨some 14, .len true, [.t 13], some (10, true)⟩,
⟨some 15, .bin .eql, [.t 12, .t 14], some (10, true)⟩,
⟨some 16, .pick, [.t 10, .t 15, .k (.c (.s (.bool false)))], none⟩,
⟨some 17, .mv, [.t 16], none⟩,
⟨some 18, .mv, [.t 0], some (17, true)⟩,
⟨some 19, .call 42, [.t 18], some (17, true)⟩,
⟨some 20, .not, [.t 19], some (17, true)⟩,
⟨some 21, .pick, [.t 17, .t 20, .k (.c (.s (.bool false)))], none⟩,
⟨some 2, .mv, [.t 21], none⟩]) (.ret))
noncomputable def G_word_Plain : FuncId → Ab.Spec := addS (addS (noS) 41 (plain runG)) 42 (plain markG)
theorem G_word_Plain_ok : ∀ f, Contract Try.prog f (G_word_Plain f) := (addS_ok (addS_ok (noS_ok _) contract_word_run) contract_word_mark)
theorem G32_41 : G_word_Plain 41 = plain runG := by simp [G_word_Plain, addS]
theorem G32_42 : G_word_Plain 42 = plain markG := by simp [G_word_Plain, addS]
set_option maxHeartbeats 16000000 in
set_option maxRecDepth 1000000 in
set_option linter.unusedSimpArgs false in
set_option linter.unusedVariables false in
theorem contract_word_Plain : Contract Try.prog 32 (plain plainG) := by
  have hb : ∃ c, Try.f32.body = some c ∧ codeOk 22 c = true ∧ cCode Try.prog c = sc_word_Plain := ⟨_, rfl, by kernel_rfl, by kernel_rfl⟩
  obtain ⟨c, hb1, hb2, hb3⟩ := hb
  refine contract_of (n := 1) G_word_Plain_ok hB hD Try.func32 hb1 (by kernel_rfl) hb2 hb3 (rs := [.tmp 2]) (by kernel_rfl) (by decide) ?_ ?_
  · intro args x h
    unfold plain plainG at h
    split at h <;> simp_all
  · intro args r hr
    unfold plain plainG at hr
    split at hr
    case h_2 => cases hr
    rename_i s
    split at hr
    case isFalse => cases hr
    rename_i hc
    simp only [Option.map_some, Option.some.injEq] at hr
    subst hr
    unfold sc_word_Plain
    simp +contextual (maxSteps := 4000000) only [↓exT_call G32_41, ↓exT_callo G32_41, ↓exT_calloG G32_41, ↓exT_call G32_42, ↓exT_callo G32_42, ↓exT_calloG G32_42, hc, go_sem, Nat.reduceAdd, Nat.reduceSub, Nat.reduceMul, Nat.reduceEqDiff, Nat.reduceLeDiff, Nat.reduceLT, Nat.reduceBEq, Int.reduceLE, Int.reduceLT, Int.reduceToNat, Int.reduceNeg, Int.reduceAdd, Int.reduceSub, Int.reduceMul, ↓reduceIte]
    rw [len_bare]
    have h2 : decide ((s.length : Int) ≤ 40) = decide (s.length ≤ 40) := by rw [decide_eq_decide]; omega
    rw [h2]
    unfold plainC wordC
    cases decide (s = []) <;> cases decide (s.length ≤ 40) <;> cases s.all bareB <;> rfl

def escG : List V → Option V
  | [.c (.s (.int .u8 c))] => if 0 ≤ c ∧ c < 256 then some (.c (.s (.str (escB (UInt8.ofNat c.toNat))))) else none
  | _ => none
theorem escG_call {c : Int} {gt : Bool} {K : V → Prop} : callE escG [.c (.s (.int .u8 c))] gt K = ((gt = true → 0 ≤ c ∧ c < 256) ∧ bindV (ifV gt (.c (.s (.str (escB (UInt8.ofNat c.toNat)))))) K) := callE_of rfl
theorem escG_callo {c : Int} {m : Nat → Option Ab.Obj} {locs : List Nat} {K : V → (Nat → Option Ab.Obj) → Prop} : callO escG (some [.c (.s (.int .u8 c))]) m locs K = ((0 ≤ c ∧ c < 256) ∧ K (.c (.s (.str (escB (UInt8.ofNat c.toNat))))) (sealW m locs (.c (.s (.str (escB (UInt8.ofNat c.toNat))))))) := callO_of rfl
attribute [go_sem] escG_call escG_callo

def sc_word_escape : SC := .seq (.reg [⟨some 2, .mv, [.k (.c (.s (.str [])))], none⟩]) (.seq (.block 0 (.seq (.reg [⟨some 4, .mv, [.t 0], none⟩,
⟨some 5, .bin .eql, [.t 4, .k (.c (.s (.int .u8 34)))], none⟩,
⟨some 6, .mv, [.t 5], none⟩,
⟨some 7, .mv, [.t 0], some (6, false)⟩,
⟨some 8, .bin .eql, [.t 7, .k (.c (.s (.int .u8 92)))], some (6, false)⟩,
⟨some 9, .pick, [.t 6, .k (.c (.s (.bool true))), .t 8], none⟩,
⟨some 3, .mv, [.t 9], none⟩]) (.cond (.t 3) (.seq (.reg [⟨some 10, .mv, [.t 0], none⟩,
⟨some 11, .bslice 1 2 [.int .u8 0] [0, 1], [.k (.c (.s (.int .u8 92))), .t 10], none⟩,
⟨some 12, .toStr, [.t 11], none⟩,
⟨some 2, .mv, [.t 12], none⟩]) (.ret)) (.seq (.reg [⟨some 14, .mv, [.t 0], none⟩,
⟨some 15, .bin .geq, [.t 14, .k (.c (.s (.int .u8 32)))], none⟩,
⟨some 16, .mv, [.t 15], none⟩,
⟨some 17, .mv, [.t 0], some (16, true)⟩,
⟨some 18, .bin .leq, [.t 17, .k (.c (.s (.int .u8 126)))], some (16, true)⟩,
⟨some 19, .pick, [.t 16, .t 18, .k (.c (.s (.bool false)))], none⟩,
⟨some 13, .mv, [.t 19], none⟩]) (.cond (.t 13) (.seq (.reg [⟨some 20, .mv, [.t 0], none⟩,
⟨some 21, .bslice 1 1 [.int .u8 0] [0], [.t 20], none⟩,
⟨some 22, .toStr, [.t 21], none⟩,
⟨some 2, .mv, [.t 22], none⟩]) (.ret)) (.skip)))))) (.seq (.regD [⟨some 23, .mv, [.t 0], none⟩,
⟨some 24, .bin .shr, [.t 23, .k (.c (.s (.int .u64 4)))], none⟩,
⟨some 25, .idx, [.k (.c (.s (.str [48, 49, 50, 51, 52, 53, 54, 55, 56, 57, 97, 98, 99, 100, 101, 102]))), .t 24], none⟩,
⟨some 26, .mv, [.t 0], none⟩,
⟨some 27, .bin .and, [.t 26, .k (.c (.s (.int .u8 15)))], none⟩,
⟨some 28, .idx, [.k (.c (.s (.str [48, 49, 50, 51, 52, 53, 54, 55, 56, 57, 97, 98, 99, 100, 101, 102]))), .t 27], none⟩,
⟨some 29, .bslice 1 2 [.int .u8 0] [0, 1], [.t 25, .t 28], none⟩,
⟨some 30, .toStr, [.t 29], none⟩,
⟨some 31, .bin .add, [.k (.c (.s (.str [92, 120]))), .t 30], none⟩,
⟨some 2, .mv, [.t 31], none⟩] []) (.ret)))
noncomputable def G_word_escape : FuncId → Ab.Spec := noS
theorem G_word_escape_ok : ∀ f, Contract Try.prog f (G_word_escape f) := (noS_ok _)
set_option maxHeartbeats 16000000 in
set_option maxRecDepth 1000000 in
set_option linter.unusedSimpArgs false in
set_option linter.unusedVariables false in
theorem contract_word_escape : Contract Try.prog 34 (plain escG) := by
  have hb : ∃ c, Try.f34.body = some c ∧ codeOk 32 c = true ∧ cCode Try.prog c = sc_word_escape := ⟨_, rfl, by kernel_rfl, by kernel_rfl⟩
  obtain ⟨c, hb1, hb2, hb3⟩ := hb
  refine contract_of (n := 1) G_word_escape_ok hB hD Try.func34 hb1 (by kernel_rfl) hb2 hb3 (rs := [.tmp 2]) (by kernel_rfl) (by decide) ?_ ?_
  · intro args x h
    unfold plain escG at h
    split at h <;> simp_all
  · intro args r hr
    unfold plain escG at hr
    split at hr
    case h_2 => cases hr
    rename_i c
    split at hr
    case isFalse => cases hr
    rename_i hc
    simp only [Option.map_some, Option.some.injEq] at hr
    subst hr
    unfold sc_word_escape
    obtain ⟨x, rfl⟩ := byte_ex hc
    simp +contextual (maxSteps := 4000000) only [go_sem, Nat.reduceAdd, Nat.reduceSub, Nat.reduceMul, Nat.reduceEqDiff, Nat.reduceLeDiff, Nat.reduceLT, Nat.reduceBEq, Int.reduceLE, Int.reduceLT, Int.reduceToNat, Int.reduceNeg, Int.reduceAdd, Int.reduceSub, Int.reduceMul, ↓reduceIte]
    clear hc
    induction x using byte_ind with
    | h n => revert n; decide +kernel

def quoteG : List V → Option V
  | [.c (.s (.str s))] => some (.tup [.inl (.s (.str (if 40 < s.length then [] else quoteT s))), .inl (.s (.int .i64 (if 40 < s.length then 5 else 0)))])
  | _ => none
theorem quoteG_call {s : Bs} {gt : Bool} {K : V → Prop} : callE quoteG [.c (.s (.str s))] gt K = bindV (ifV gt (.tup [.inl (.s (.str (if 40 < s.length then [] else quoteT s))), .inl (.s (.int .i64 (if 40 < s.length then 5 else 0)))])) K := callE_all rfl
theorem quoteG_callo {s : Bs} {m : Nat → Option Ab.Obj} {locs : List Nat} {K : V → (Nat → Option Ab.Obj) → Prop} : callO quoteG (some [.c (.s (.str s))]) m locs K = K (.tup [.inl (.s (.str (if 40 < s.length then [] else quoteT s))), .inl (.s (.int .i64 (if 40 < s.length then 5 else 0)))]) (sealW m locs (.tup [.inl (.s (.str (if 40 < s.length then [] else quoteT s))), .inl (.s (.int .i64 (if 40 < s.length then 5 else 0)))])) := callO_all rfl
attribute [go_sem] quoteG_call quoteG_callo

theorem escs_take (s : Bs) (i : Nat) (h : i < s.length) : escs (s.take (i + 1)) = escs (s.take i) ++ escB (s.getD i 0) := by
  have : s.take (i + 1) = s.take i ++ [s.getD i 0] := by rw [List.take_succ_eq_append_getElem h]; simp [h]
  rw [this]; simp [escs]
def sc_word_Quote : SC := .seq (.reg [⟨some 2, .mv, [.k (.c (.s (.str [])))], none⟩,
⟨some 3, .mv, [.k (.c (.s (.int .i64 0)))], none⟩]) (.seq (.block 0 (.seq (.reg [⟨some 7, .mv, [.t 0], none⟩,
⟨some 8, .len true, [.t 7], none⟩,
⟨some 9, .bin .gtr, [.t 8, .k (.c (.s (.int .i64 40)))], none⟩,
⟨some 6, .mv, [.t 9], none⟩]) (.cond (.t 6) (.seq (.reg [⟨some 2, .mv, [.k (.c (.s (.str [])))], none⟩,
⟨some 3, .mv, [.k (.c (.s (.int .i64 5)))], none⟩]) (.ret)) (.seq (.reg [⟨some 11, .mv, [.t 0], none⟩,
⟨some 12, .call 32, [.t 11], none⟩,
⟨some 10, .mv, [.t 12], none⟩]) (.cond (.t 10) (.seq (.reg [⟨some 13, .mv, [.t 0], none⟩,
⟨some 2, .mv, [.t 13], none⟩,
⟨some 3, .mv, [.k (.c (.s (.int .i64 0)))], none⟩]) (.ret)) (.skip)))))) (.seq (.reg [⟨some 4, .allocB (42, 5), [], none⟩]) (.seq (.reg [⟨some 14, .bldByte 33 (42, 5), [.t 4, .k (.c (.s (.int .u8 34)))], none⟩]) (.seq (.seq (.reg [⟨some 15, .mv, [.t 0], none⟩,
⟨some 16, .len true, [.t 15], none⟩,
⟨some 17, .mv, [.k (.c (.s (.int .i64 0)))], none⟩]) (.block 1 (.loop (.seq (.reg [⟨some 18, .bin .lss, [.t 17, .t 16], none⟩]) (.seq (.cond (.t 18) (.skip) (.exit 1)) (.seq (.block 2 (.seq (.reg [⟨some 19, .mv, [.t 17], none⟩,
⟨some 5, .mv, [.t 19], none⟩]) (.reg [⟨some 20, .mv, [.t 0], none⟩,
⟨some 21, .mv, [.t 5], none⟩,
⟨some 22, .idx, [.t 20, .t 21], none⟩,
⟨some 23, .call 34, [.t 22], none⟩,
⟨some 24, .bldStr 21 (42, 5), [.t 4, .t 23], none⟩]))) (.reg [⟨some 25, .bin .add, [.t 17, .k (.c (.s (.int .i64 1)))], none⟩,
⟨some 17, .mv, [.t 25], none⟩]))))))) (.seq (.reg [⟨some 26, .bldGet 25 (42, 5), [.t 4], none⟩,
⟨some 27, .bin .add, [.t 26, .k (.c (.s (.str [34])))], none⟩,
⟨some 2, .mv, [.t 27], none⟩,
⟨some 3, .mv, [.k (.c (.s (.int .i64 0)))], none⟩]) (.ret))))))
noncomputable def G_word_Quote : FuncId → Ab.Spec := addS (addS (noS) 32 (plain plainG)) 34 (plain escG)
theorem G_word_Quote_ok : ∀ f, Contract Try.prog f (G_word_Quote f) := (addS_ok (addS_ok (noS_ok _) contract_word_Plain) contract_word_escape)
theorem G20_32 : G_word_Quote 32 = plain plainG := by simp [G_word_Quote, addS]
theorem G20_34 : G_word_Quote 34 = plain escG := by simp [G_word_Quote, addS]
set_option maxHeartbeats 16000000 in
set_option maxRecDepth 1000000 in
set_option linter.unusedSimpArgs false in
set_option linter.unusedVariables false in
theorem contract_word_Quote : Contract Try.prog 20 (plain quoteG) := by
  have hb : ∃ c, Try.f20.body = some c ∧ codeOk 28 c = true ∧ cCode Try.prog c = sc_word_Quote := ⟨_, rfl, by kernel_rfl, by kernel_rfl⟩
  obtain ⟨c, hb1, hb2, hb3⟩ := hb
  refine contract_of (n := 1) G_word_Quote_ok hB hD Try.func20 hb1 (by kernel_rfl) hb2 hb3 (rs := [.tmp 2, .tmp 3]) (by kernel_rfl) (by decide) ?_ ?_
  · intro args x h
    unfold plain quoteG at h
    split at h <;> simp_all
  · intro args r hr
    unfold plain quoteG at hr
    split at hr
    case h_2 => cases hr
    rename_i s
    simp only [Option.map_some, Option.some.injEq] at hr
    subst hr
    unfold sc_word_Quote
    simp +contextual (maxSteps := 4000000) only [↓exT_call G20_32, ↓exT_callo G20_32, ↓exT_calloG G20_32, ↓exT_call G20_34, ↓exT_callo G20_34, ↓exT_calloG G20_34, go_sem, Nat.reduceAdd, Nat.reduceSub, Nat.reduceMul, Nat.reduceEqDiff, Nat.reduceLeDiff, Nat.reduceLT, Nat.reduceBEq, Int.reduceLE, Int.reduceLT, Int.reduceToNat, Int.reduceNeg, Int.reduceAdd, Int.reduceSub, Int.reduceMul, ↓reduceIte]
    refine ⟨fun h => ?_, fun h => ⟨by omega, fun h2 => ?_, fun h2 => ?_⟩⟩
    · have h' : 40 < s.length := by omega
      rw [if_pos h', if_pos h']; exact ⟨rfl, rfl⟩
    · have h' : ¬ 40 < s.length := by omega
      rw [if_neg h', if_neg h']
      simp only [plainC, Bool.and_eq_true] at h2
      exact ⟨by unfold quoteT; rw [if_pos h2.2], rfl⟩
    · have h' : ¬ 40 < s.length := by omega
      rw [if_neg h', if_neg h']
      have hw : wordC s = false := by
        cases hw : wordC s with
        | false => rfl
        | true => simp [plainC, hw] at h2; omega
      have hq : quoteT s = 34 :: (escs s ++ [34]) := by unfold quoteT; rw [hw]; rfl
      refine awp_loopM (α := Nat) (fun i => [(0, .c (.s (.str s))), (4, .c (.ptr 4 0)), (16, .c (.s (.int .i64 s.length))), (17, .c (.s (.int .i64 i)))]) (fun i => [(4, .bld (42, 5) (34 :: escs (s.take i)))]) (fun i => s.length - i) 0 (fun i => i ≤ s.length) (Nat.zero_le _) (Weak.meets ?_) ?_
      · simp +contextual (maxSteps := 4000000) only [↓exT_call G20_32, ↓exT_callo G20_32, ↓exT_calloG G20_32, ↓exT_call G20_34, ↓exT_callo G20_34, ↓exT_calloG G20_34, go_sem, Nat.reduceAdd, Nat.reduceSub, Nat.reduceMul, Nat.reduceEqDiff, Nat.reduceLeDiff, Nat.reduceLT, Nat.reduceBEq, Int.reduceLE, Int.reduceLT, Int.reduceToNat, Int.reduceNeg, Int.reduceAdd, Int.reduceSub, Int.reduceMul, ↓reduceIte]
        simp [escs]
      intro x hx
      simp +contextual (maxSteps := 4000000) only [↓exT_call G20_32, ↓exT_callo G20_32, ↓exT_calloG G20_32, ↓exT_call G20_34, ↓exT_callo G20_34, ↓exT_calloG G20_34, go_sem, Nat.reduceAdd, Nat.reduceSub, Nat.reduceMul, Nat.reduceEqDiff, Nat.reduceLeDiff, Nat.reduceLT, Nat.reduceBEq, Int.reduceLE, Int.reduceLT, Int.reduceToNat, Int.reduceNeg, Int.reduceAdd, Int.reduceSub, Int.reduceMul, ↓reduceIte]
      have hle := escs_len (s.take x)
      have hle2 := escs_len s
      have h4 := esc_len (s.getD x 0)
      simp only [List.length_take] at hle
      refine ⟨fun h => ?_, fun h => ?_⟩
      · have h3 : x < s.length := by omega
        refine ⟨by omega, ⟨by omega, by omega⟩, x + 1, by omega, by omega, by simp, ?_⟩
        rw [escs_take s x h3]
      · have h3 : x = s.length := by omega
        subst h3
        simp only [List.take_length] at *
        refine ⟨by omega, by omega, ?_⟩
        rw [hq]

end Go.Proofs.Ytjjjgagmknlpmaa
