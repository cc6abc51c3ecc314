/- The document's trees and texts. -/
import Derived.Test.YtjjjgagmknlpmaaS5
import Derived.Test.YtjjjgagmknlpmaaC3
import Derived.Test.YtjjjgagmknlpmaaTR6
set_option linter.all false
namespace Go.Proofs.Ytjjjgagmknlpmaa
open Go Go.Ab Go.Proofs Go.Fs
def refEndG_enc : (List Ln) × (Bool) × (Int) → List V := fun ⟨t, f, i⟩ => [.c (.s (.list 3 (encs lnE t) f)), .c (.s (.int .i64 i))]
theorem refEndG_inj : ∀ x y, refEndG_enc x = refEndG_enc y → x = y := by
  rintro ⟨t, f, i⟩ ⟨t2, f2, i2⟩ h
  simp only [refEndG_enc, List.cons.injEq, V.c.injEq, V.agg.injEq, C.s.injEq, S.list.injEq, S.str.injEq, S.int.injEq, S.bool.injEq, S.fn.injEq, S.cref.injEq, strE_inj, true_and, and_true, lnE_inj] at h
  simp_all
noncomputable def refEndG : List V → Option (V) := specE refEndG_enc (fun ⟨t, f, i⟩ => (0 ≤ i ∧ i < t.length) ∧ t.length < 4000000) (fun ⟨t, f, i⟩ => .c (.s (.int .i64 (endN t i.toNat : Nat))))
theorem refEndG_eq {t : List Ln} {f : Bool} {i : Int} [Decidable ((0 ≤ i ∧ i < t.length) ∧ t.length < 4000000)] : refEndG [.c (.s (.list 3 (encs lnE t) f)), .c (.s (.int .i64 i))] = if (0 ≤ i ∧ i < t.length) ∧ t.length < 4000000 then some (.c (.s (.int .i64 (endN t i.toNat : Nat)))) else none := specE_eq refEndG_inj (t, f, i)
theorem refEndG_call {t : List Ln} {f : Bool} {i : Int} {gt : Bool} {K : V → Prop} : callE refEndG [.c (.s (.list 3 (encs lnE t) f)), .c (.s (.int .i64 i))] gt K = ((gt = true → (0 ≤ i ∧ i < t.length) ∧ t.length < 4000000) ∧ bindV (ifV gt (.c (.s (.int .i64 (endN t i.toNat : Nat))))) K) := by
  have := Classical.propDecidable ((0 ≤ i ∧ i < t.length) ∧ t.length < 4000000)
  exact callE_of refEndG_eq
theorem refEndG_callo {t : List Ln} {f : Bool} {i : Int} {m : Nat → Option Ab.Obj} {locs : List Nat} {K : V → (Nat → Option Ab.Obj) → Prop} : callO refEndG (some [.c (.s (.list 3 (encs lnE t) f)), .c (.s (.int .i64 i))]) m locs K = (((0 ≤ i ∧ i < t.length) ∧ t.length < 4000000) ∧ K (.c (.s (.int .i64 (endN t i.toNat : Nat)))) (sealW m locs (.c (.s (.int .i64 (endN t i.toNat : Nat)))))) := by
  have := Classical.propDecidable ((0 ≤ i ∧ i < t.length) ∧ t.length < 4000000)
  exact callO_of refEndG_eq
attribute [go_sem] refEndG_call refEndG_callo

def sc_ref03_End : SC := .seq (.reg [⟨some 4, .mv, [.k (.c (.s (.int .i64 0)))], none⟩]) (.seq (.seq (.reg [⟨some 6, .mv, [.t 1], none⟩,
⟨some 7, .bin .add, [.t 6, .k (.c (.s (.int .i64 1)))], none⟩,
⟨some 5, .mv, [.t 7], none⟩]) (.block 0 (.loop (.seq (.seq (.reg [⟨some 8, .mv, [.t 5], none⟩,
⟨some 9, .mv, [.t 0], none⟩,
⟨some 10, .len false, [.t 9], none⟩,
⟨some 11, .bin .lss, [.t 8, .t 10], none⟩]) (.cond (.t 11) (.skip) (.exit 0))) (.seq (.block 1 (.seq (.regD [⟨some 14, .mv, [.t 0], none⟩,
⟨some 15, .mv, [.t 5], none⟩,
⟨some 16, .iadr 3, [.t 14, .t 15], none⟩,
⟨some 17, .fadr 0, [.t 16], none⟩,
⟨some 18, .load 1 false, [.t 17], none⟩,
⟨some 19, .mv, [.t 0], none⟩,
⟨some 20, .mv, [.t 1], none⟩,
⟨some 21, .iadr 3, [.t 19, .t 20], none⟩,
⟨some 22, .fadr 0, [.t 21], none⟩,
⟨some 23, .load 1 false, [.t 22], none⟩,
⟨some 24, .bin .leq, [.t 18, .t 23], none⟩] []) (.cond (.t 24) (.seq (.reg [⟨some 25, .mv, [.t 5], none⟩,
⟨some 4, .mv, [.t 25], none⟩]) (.ret)) (.skip)))) (.reg [⟨some 12, .mv, [.t 5], none⟩,
⟨some 13, .bin .add, [.t 12, .k (.c (.s (.int .i64 1)))], none⟩,
⟨some 5, .mv, [.t 13], none⟩])))))) (.seq (.reg [⟨some 26, .mv, [.t 0], none⟩,
⟨some 27, .len false, [.t 26], none⟩,
⟨some 4, .mv, [.t 27], none⟩]) (.ret)))
noncomputable def G_ref03_End : FuncId → Ab.Spec := noS
theorem G_ref03_End_ok : ∀ f, Contract Try.prog f (G_ref03_End f) := (noS_ok _)
set_option maxHeartbeats 16000000 in
set_option maxRecDepth 1000000 in
set_option linter.unusedSimpArgs false in
set_option linter.unusedVariables false in
theorem contract_ref03_End : Contract Try.prog 29 (plain refEndG) := by
  have hb : ∃ c, Try.f29.body = some c ∧ codeOk 28 c = true ∧ cCode Try.prog c = sc_ref03_End := ⟨_, rfl, by kernel_rfl, by kernel_rfl⟩
  obtain ⟨c, hb1, hb2, hb3⟩ := hb
  refine contract_of (n := 2) G_ref03_End_ok hB hD Try.func29 hb1 (by kernel_rfl) hb2 hb3 (rs := [.tmp 4]) (by kernel_rfl) (by decide) ?_ ?_
  · intro args x h
    obtain ⟨y, hy, -⟩ := Option.map_eq_some_iff.1 h
    obtain ⟨⟨t, f, i⟩, rfl, -⟩ := specE_some hy
    rfl
  · intro args r hr
    obtain ⟨y, hy, rfl⟩ := Option.map_eq_some_iff.1 hr
    obtain ⟨⟨t, f, i⟩, rfl, hc, rfl⟩ := specE_some hy
    clear hr hy
    have hc : (0 ≤ i ∧ i < t.length) ∧ t.length < 4000000 := hc
    change awp _ _ (postQ _ (.v (.c (.s (.int .i64 (endN t i.toNat : Nat)))))) _
    unfold refEndG_enc sc_ref03_End
    obtain ⟨⟨h0, h1⟩, h2⟩ := hc
    obtain ⟨k, rfl⟩ : ∃ k : Nat, i = k := ⟨i.toNat, by omega⟩
    have hk : k < t.length := by omega
    rw [Int.toNat_natCast]
    simp (maxSteps := 4000000) only [go_sem, Nat.reduceAdd, Nat.reduceSub, Nat.reduceMul, Nat.reduceEqDiff, Nat.reduceLeDiff, Nat.reduceLT, Nat.reduceBEq, Int.reduceLE, Int.reduceLT, Int.reduceToNat, Int.reduceNeg, Int.reduceAdd, Int.reduceSub, Int.reduceMul, ↓reduceIte]
    refine ⟨by omega, ?_⟩
    refine awp_loopM (α := Nat) (fun j => [(0, .c (.s (.list 3 (encs lnE t) f))), (1, .c (.s (.int .i64 k))), (5, .c (.s (.int .i64 j)))]) (fun _ => []) (fun j => t.length - j) (k + 1) (fun j => k + 1 ≤ j ∧ j ≤ t.length ∧ ∀ l ∈ (t.take j).drop (k + 1), (t.getD k default).d < l.d) ⟨Nat.le_refl _, hk, by simp⟩ (Weak.meets ?_) ?_
    · simp (maxSteps := 4000000) only [go_sem, Nat.reduceAdd, Nat.reduceSub, Nat.reduceMul, Nat.reduceEqDiff, Nat.reduceLeDiff, Nat.reduceLT, Nat.reduceBEq, Int.reduceLE, Int.reduceLT, Int.reduceToNat, Int.reduceNeg, Int.reduceAdd, Int.reduceSub, Int.reduceMul, ↓reduceIte]
      simp
    rintro j ⟨hj1, hj2, hw⟩
    by_cases hjl : j < t.length
    case neg =>
      have hji : ¬ (j : Int) < (t.length : Int) := by omega
      obtain rfl : j = t.length := by omega
      rw [endN_of hj1 (Nat.le_refl _) hw (.inl rfl)]
      simp (maxSteps := 4000000) only [hji, go_sem, Nat.reduceAdd, Nat.reduceSub, Nat.reduceMul, Nat.reduceEqDiff, Nat.reduceLeDiff, Nat.reduceLT, Nat.reduceBEq, Int.reduceLE, Int.reduceLT, Int.reduceToNat, Int.reduceNeg, Int.reduceAdd, Int.reduceSub, Int.reduceMul, ↓reduceIte]
    have hji : (j : Int) < (t.length : Int) := by omega
    by_cases hd : (t.getD j default).d ≤ (t.getD k default).d
    case neg =>
      have hn : ∀ l ∈ (t.take (j + 1)).drop (k + 1), (t.getD k default).d < l.d := by
        intro l hl
        rw [take_getD hjl, List.drop_append_of_le_length (by simp; omega)] at hl
        rcases List.mem_append.1 hl with h | h
        · exact hw l h
        · simp only [List.mem_singleton] at h; rw [h]; omega
      simp (maxSteps := 4000000) only [hji, h1, hd, go_sem, Nat.reduceAdd, Nat.reduceSub, Nat.reduceMul, Nat.reduceEqDiff, Nat.reduceLeDiff, Nat.reduceLT, Nat.reduceBEq, Int.reduceLE, Int.reduceLT, Int.reduceToNat, Int.reduceNeg, Int.reduceAdd, Int.reduceSub, Int.reduceMul, ↓reduceIte]
      exact ⟨by omega, j + 1, ⟨by omega, by omega, hn⟩, by omega, by simp⟩
    rw [endN_of hj1 (by omega) hw (.inr (by omega))]
    simp (maxSteps := 4000000) only [hji, h1, hd, go_sem, Nat.reduceAdd, Nat.reduceSub, Nat.reduceMul, Nat.reduceEqDiff, Nat.reduceLeDiff, Nat.reduceLT, Nat.reduceBEq, Int.reduceLE, Int.reduceLT, Int.reduceToNat, Int.reduceNeg, Int.reduceAdd, Int.reduceSub, Int.reduceMul, ↓reduceIte]

def rblanksG : List V → Option V
  | [.c (.s (.int .i64 n))] => if n ≤ 1000000 then some (.c (.s (.str (blanksB n.toNat)))) else none
  | _ => none
theorem rblanksG_call {n : Int} {gt : Bool} {K : V → Prop} : callE rblanksG [.c (.s (.int .i64 n))] gt K = ((gt = true → n ≤ 1000000) ∧ bindV (ifV gt (.c (.s (.str (blanksB n.toNat))))) K) := callE_of rfl
theorem rblanksG_callo {n : Int} {m : Nat → Option Ab.Obj} {locs : List Nat} {K : V → (Nat → Option Ab.Obj) → Prop} : callO rblanksG (some [.c (.s (.int .i64 n))]) m locs K = ((n ≤ 1000000) ∧ K (.c (.s (.str (blanksB n.toNat)))) (sealW m locs (.c (.s (.str (blanksB n.toNat)))))) := callO_of rfl
attribute [go_sem] rblanksG_call rblanksG_callo

theorem blanks_snoc (n : Nat) : blanksB n ++ [32, 32] = blanksB (n + 1) := by
  unfold blanksB
  rw [show ([32, 32] : Bs) = List.replicate 2 32 from rfl, List.replicate_append_replicate]; rfl
def sc_ref04_blanks : SC := .seq (.reg [⟨some 2, .mv, [.k (.c (.s (.str [])))], none⟩]) (.seq (.reg [⟨some 3, .mv, [.k (.c (.s (.str [])))], none⟩]) (.seq (.seq (.reg [⟨some 4, .mv, [.k (.c (.s (.int .i64 0)))], none⟩]) (.block 0 (.loop (.seq (.seq (.reg [⟨some 5, .mv, [.t 4], none⟩,
⟨some 6, .mv, [.t 0], none⟩,
⟨some 7, .bin .lss, [.t 5, .t 6], none⟩]) (.cond (.t 7) (.skip) (.exit 0))) (.seq (.block 1 (.reg [⟨some 10, .mv, [.t 3], none⟩,
⟨some 11, .bin .add, [.t 10, .k (.c (.s (.str [32, 32])))], none⟩,
⟨some 3, .mv, [.t 11], none⟩])) (.reg [⟨some 8, .mv, [.t 4], none⟩,
⟨some 9, .bin .add, [.t 8, .k (.c (.s (.int .i64 1)))], none⟩,
⟨some 4, .mv, [.t 9], none⟩])))))) (.seq (.reg [⟨some 12, .mv, [.t 3], none⟩,
⟨some 2, .mv, [.t 12], none⟩]) (.ret))))
noncomputable def G_ref04_blanks : FuncId → Ab.Spec := noS
theorem G_ref04_blanks_ok : ∀ f, Contract Try.prog f (G_ref04_blanks f) := (noS_ok _)
set_option maxHeartbeats 16000000 in
set_option maxRecDepth 1000000 in
set_option linter.unusedSimpArgs false in
set_option linter.unusedVariables false in
theorem contract_ref04_blanks : Contract Try.prog 27 (plain rblanksG) := by
  have hb : ∃ c, Try.f27.body = some c ∧ codeOk 13 c = true ∧ cCode Try.prog c = sc_ref04_blanks := ⟨_, rfl, by kernel_rfl, by kernel_rfl⟩
  obtain ⟨c, hb1, hb2, hb3⟩ := hb
  refine contract_of (n := 1) G_ref04_blanks_ok hB hD Try.func27 hb1 (by kernel_rfl) hb2 hb3 (rs := [.tmp 2]) (by kernel_rfl) (by decide) ?_ ?_
  · intro args x h
    unfold plain rblanksG at h
    split at h <;> simp_all
  · intro args r hr
    unfold plain rblanksG at hr
    split at hr
    case h_2 => cases hr
    rename_i n
    split at hr
    case isFalse => cases hr
    rename_i hc
    simp only [Option.map_some, Option.some.injEq] at hr
    subst hr
    unfold sc_ref04_blanks
    simp (maxSteps := 4000000) only [go_sem, Nat.reduceAdd, Nat.reduceSub, Nat.reduceMul, Nat.reduceEqDiff, Nat.reduceLeDiff, Nat.reduceLT, Nat.reduceBEq, Int.reduceLE, Int.reduceLT, Int.reduceToNat, Int.reduceNeg, Int.reduceAdd, Int.reduceSub, Int.reduceMul, ↓reduceIte]
    refine awp_loopM (α := Nat) (fun i => [(0, .c (.s (.int .i64 n))), (3, .c (.s (.str (blanksB i)))), (4, .c (.s (.int .i64 i)))]) (fun _ => []) (fun i => n.toNat - i) 0 (fun i => i ≤ n.toNat) (Nat.zero_le _) (Weak.meets ?_) ?_
    · simp (maxSteps := 4000000) only [go_sem, Nat.reduceAdd, Nat.reduceSub, Nat.reduceMul, Nat.reduceEqDiff, Nat.reduceLeDiff, Nat.reduceLT, Nat.reduceBEq, Int.reduceLE, Int.reduceLT, Int.reduceToNat, Int.reduceNeg, Int.reduceAdd, Int.reduceSub, Int.reduceMul, ↓reduceIte]
      exact ⟨rfl, rfl⟩
    intro x hx
    have hbl := blanks_len x
    by_cases hxl : x < n.toNat
    · have hxi : (x : Int) < n := by omega
      simp (maxSteps := 4000000) only [hxi, blanks_snoc, go_sem, Nat.reduceAdd, Nat.reduceSub, Nat.reduceMul, Nat.reduceEqDiff, Nat.reduceLeDiff, Nat.reduceLT, Nat.reduceBEq, Int.reduceLE, Int.reduceLT, Int.reduceToNat, Int.reduceNeg, Int.reduceAdd, Int.reduceSub, Int.reduceMul, ↓reduceIte]
      exact ⟨by omega, by omega, x + 1, by omega, by omega, by simp⟩
    · have hxi : ¬ (x : Int) < n := by omega
      obtain rfl : x = n.toNat := by omega
      simp (maxSteps := 4000000) only [hxi, go_sem, Nat.reduceAdd, Nat.reduceSub, Nat.reduceMul, Nat.reduceEqDiff, Nat.reduceLeDiff, Nat.reduceLT, Nat.reduceBEq, Int.reduceLE, Int.reduceLT, Int.reduceToNat, Int.reduceNeg, Int.reduceAdd, Int.reduceSub, Int.reduceMul, ↓reduceIte]

def refRightG_enc : (List Ln) × (Bool) → List V := fun ⟨t, f⟩ => [.c (.s (.list 3 (encs lnE t) f))]
theorem refRightG_inj : ∀ x y, refRightG_enc x = refRightG_enc y → x = y := by
  rintro ⟨t, f⟩ ⟨t2, f2⟩ h
  simp only [refRightG_enc, List.cons.injEq, V.c.injEq, V.agg.injEq, C.s.injEq, S.list.injEq, S.str.injEq, S.int.injEq, S.bool.injEq, S.fn.injEq, S.cref.injEq, strE_inj, true_and, and_true, lnE_inj] at h
  simp_all
noncomputable def refRightG : List V → Option (V) := specE refRightG_enc (fun ⟨t, f⟩ => True) (fun ⟨t, f⟩ => .c (.s (.bool (rightT t))))
theorem refRightG_eq {t : List Ln} {f : Bool} [Decidable (True)] : refRightG [.c (.s (.list 3 (encs lnE t) f))] = if True then some (.c (.s (.bool (rightT t)))) else none := specE_eq refRightG_inj (t, f)
theorem refRightG_call {t : List Ln} {f : Bool} {gt : Bool} {K : V → Prop} : callE refRightG [.c (.s (.list 3 (encs lnE t) f))] gt K = bindV (ifV gt (.c (.s (.bool (rightT t))))) K := callE_all (by rw [refRightG_eq]; rfl)
theorem refRightG_callo {t : List Ln} {f : Bool} {m : Nat → Option Ab.Obj} {locs : List Nat} {K : V → (Nat → Option Ab.Obj) → Prop} : callO refRightG (some [.c (.s (.list 3 (encs lnE t) f))]) m locs K = K (.c (.s (.bool (rightT t)))) (sealW m locs (.c (.s (.bool (rightT t))))) := callO_all (by rw [refRightG_eq]; rfl)
attribute [go_sem] refRightG_call refRightG_callo

def sc_ref03_Right : SC := .seq (.reg [⟨some 2, .mv, [.k (.c (.s (.bool false)))], none⟩]) (.seq (.seq (.reg [⟨some 7, .mv, [.t 0], none⟩,
⟨some 8, .len false, [.t 7], none⟩,
⟨some 9, .bin .gtr, [.t 8, .k (.c (.s (.int .i64 200)))], none⟩]) (.cond (.t 9) (.seq (.reg [⟨some 2, .mv, [.k (.c (.s (.bool false)))], none⟩]) (.ret)) (.skip))) (.seq (.seq (.reg [⟨some 3, .mv, [.k (.c (.s (.int .i64 0)))], none⟩]) (.block 0 (.loop (.seq (.seq (.reg [⟨some 10, .mv, [.t 3], none⟩,
⟨some 11, .mv, [.t 0], none⟩,
⟨some 12, .len false, [.t 11], none⟩,
⟨some 13, .bin .lss, [.t 10, .t 12], none⟩]) (.cond (.t 13) (.skip) (.exit 0))) (.seq (.block 1 (.seq (.reg [⟨some 16, .mv, [.t 0], none⟩,
⟨some 17, .mv, [.t 3], none⟩,
⟨some 18, .iadr 3, [.t 16, .t 17], none⟩,
⟨some 19, .load 3 true, [.t 18], none⟩,
⟨some 4, .alloc [.int .i64 0, .str [], .int .i64 0], [], none⟩,
⟨none, .store 3 true, [.t 4, .t 19], none⟩]) (.seq (.seq (.reg [⟨some 20, .fadr 0, [.t 4], none⟩,
⟨some 21, .load 1 false, [.t 20], none⟩,
⟨some 22, .bin .lss, [.t 21, .k (.c (.s (.int .i64 0)))], none⟩,
⟨some 23, .mv, [.t 22], none⟩,
⟨some 24, .fadr 0, [.t 4], some (23, false)⟩,
⟨some 25, .load 1 false, [.t 24], some (23, false)⟩,
⟨some 26, .bin .gtr, [.t 25, .k (.c (.s (.int .i64 15)))], some (23, false)⟩,
⟨some 27, .pick, [.t 23, .k (.c (.s (.bool true))), .t 26], none⟩,
⟨some 28, .mv, [.t 27], none⟩,
⟨some 29, .fadr 1, [.t 4], some (28, false)⟩,
⟨some 30, .load 1 false, [.t 29], some (28, false)⟩,
⟨some 31, .len true, [.t 30], some (28, false)⟩,
⟨some 32, .bin .gtr, [.t 31, .k (.c (.s (.int .i64 40)))], some (28, false)⟩,
⟨some 33, .pick, [.t 28, .k (.c (.s (.bool true))), .t 32], none⟩,
⟨some 34, .mv, [.t 33], none⟩,
⟨some 35, .fadr 2, [.t 4], some (34, false)⟩,
⟨some 36, .load 1 false, [.t 35], some (34, false)⟩,
⟨some 37, .bin .lss, [.t 36, .k (.c (.s (.int .i64 0)))], some (34, false)⟩,
⟨some 38, .pick, [.t 34, .k (.c (.s (.bool true))), .t 37], none⟩,
⟨some 39, .mv, [.t 38], none⟩,
⟨some 40, .fadr 2, [.t 4], some (39, false)⟩,
⟨some 41, .load 1 false, [.t 40], some (39, false)⟩,
⟨some 42, .bin .gtr, [.t 41, .k (.c (.s (.int .i64 3)))], some (39, false)⟩,
⟨some 43, .pick, [.t 39, .k (.c (.s (.bool true))), .t 42], none⟩]) (.cond (.t 43) (.seq (.reg [⟨some 2, .mv, [.k (.c (.s (.bool false)))], none⟩]) (.ret)) (.skip))) (.seq (.regD [⟨some 44, .mv, [.t 3], none⟩,
⟨some 45, .bin .eql, [.t 44, .k (.c (.s (.int .i64 0)))], none⟩,
⟨some 46, .mv, [.t 45], none⟩,
⟨some 47, .fadr 0, [.t 4], some (46, true)⟩,
⟨some 48, .load 1 false, [.t 47], some (46, true)⟩,
⟨some 49, .bin .neq, [.t 48, .k (.c (.s (.int .i64 0)))], some (46, true)⟩,
⟨some 50, .pick, [.t 46, .t 49, .k (.c (.s (.bool false)))], none⟩,
⟨some 51, .mv, [.t 50], none⟩,
⟨some 52, .mv, [.t 3], some (51, false)⟩,
⟨some 53, .bin .gtr, [.t 52, .k (.c (.s (.int .i64 0)))], some (51, false)⟩,
⟨some 54, .mv, [.t 53], some (51, false)⟩,
⟨some 55, .fadr 0, [.t 4], some (54, true)⟩,
⟨some 56, .load 1 false, [.t 55], some (54, true)⟩,
⟨some 57, .mv, [.t 0], some (54, true)⟩,
⟨some 58, .mv, [.t 3], some (54, true)⟩,
⟨some 59, .bin .sub, [.t 58, .k (.c (.s (.int .i64 1)))], some (54, true)⟩,
⟨some 60, .iadr 3, [.t 57, .t 59], some (54, true)⟩,
⟨some 61, .fadr 0, [.t 60], some (54, true)⟩,
⟨some 62, .load 1 false, [.t 61], some (54, true)⟩,
⟨some 63, .bin .add, [.t 62, .k (.c (.s (.int .i64 1)))], some (54, true)⟩,
⟨some 64, .bin .gtr, [.t 56, .t 63], some (54, true)⟩,
⟨some 65, .pick, [.t 54, .t 64, .k (.c (.s (.bool false)))], some (51, false)⟩,
⟨some 66, .pick, [.t 51, .k (.c (.s (.bool true))), .t 65], none⟩] []) (.cond (.t 66) (.seq (.reg [⟨some 2, .mv, [.k (.c (.s (.bool false)))], none⟩]) (.ret)) (.skip)))))) (.reg [⟨some 14, .mv, [.t 3], none⟩,
⟨some 15, .bin .add, [.t 14, .k (.c (.s (.int .i64 1)))], none⟩,
⟨some 3, .mv, [.t 15], none⟩])))))) (.seq (.seq (.reg [⟨some 5, .mv, [.k (.c (.s (.int .i64 0)))], none⟩]) (.block 2 (.loop (.seq (.seq (.reg [⟨some 67, .mv, [.t 5], none⟩,
⟨some 68, .mv, [.t 0], none⟩,
⟨some 69, .len false, [.t 68], none⟩,
⟨some 70, .bin .lss, [.t 67, .t 69], none⟩]) (.cond (.t 70) (.skip) (.exit 2))) (.seq (.block 3 (.seq (.reg [⟨some 73, .mv, [.t 5], none⟩,
⟨some 74, .bin .add, [.t 73, .k (.c (.s (.int .i64 1)))], none⟩,
⟨some 6, .mv, [.t 74], none⟩]) (.block 4 (.loop (.seq (.seq (.regD [⟨some 75, .mv, [.t 6], none⟩,
⟨some 76, .mv, [.t 0], none⟩,
⟨some 77, .len false, [.t 76], none⟩,
⟨some 78, .bin .lss, [.t 75, .t 77], none⟩,
⟨some 79, .mv, [.t 78], none⟩,
⟨some 80, .mv, [.t 0], some (79, true)⟩,
⟨some 81, .mv, [.t 6], some (79, true)⟩,
⟨some 82, .iadr 3, [.t 80, .t 81], some (79, true)⟩,
⟨some 83, .fadr 0, [.t 82], some (79, true)⟩,
⟨some 84, .load 1 false, [.t 83], some (79, true)⟩,
⟨some 85, .mv, [.t 0], some (79, true)⟩,
⟨some 86, .mv, [.t 5], some (79, true)⟩,
⟨some 87, .iadr 3, [.t 85, .t 86], some (79, true)⟩,
⟨some 88, .fadr 0, [.t 87], some (79, true)⟩,
⟨some 89, .load 1 false, [.t 88], some (79, true)⟩,
⟨some 90, .bin .geq, [.t 84, .t 89], some (79, true)⟩,
⟨some 91, .pick, [.t 79, .t 90, .k (.c (.s (.bool false)))], none⟩] []) (.cond (.t 91) (.skip) (.exit 4))) (.seq (.block 5 (.seq (.regD [⟨some 94, .mv, [.t 0], none⟩,
⟨some 95, .mv, [.t 6], none⟩,
⟨some 96, .iadr 3, [.t 94, .t 95], none⟩,
⟨some 97, .fadr 0, [.t 96], none⟩,
⟨some 98, .load 1 false, [.t 97], none⟩,
⟨some 99, .mv, [.t 0], none⟩,
⟨some 100, .mv, [.t 5], none⟩,
⟨some 101, .iadr 3, [.t 99, .t 100], none⟩,
⟨some 102, .fadr 0, [.t 101], none⟩,
⟨some 103, .load 1 false, [.t 102], none⟩,
⟨some 104, .bin .eql, [.t 98, .t 103], none⟩,
⟨some 105, .mv, [.t 104], none⟩,
⟨some 106, .mv, [.t 0], some (105, true)⟩,
⟨some 107, .mv, [.t 6], some (105, true)⟩,
⟨some 108, .iadr 3, [.t 106, .t 107], some (105, true)⟩,
⟨some 109, .fadr 1, [.t 108], some (105, true)⟩,
⟨some 110, .load 1 false, [.t 109], some (105, true)⟩,
⟨some 111, .mv, [.t 0], some (105, true)⟩,
⟨some 112, .mv, [.t 5], some (105, true)⟩,
⟨some 113, .iadr 3, [.t 111, .t 112], some (105, true)⟩,
⟨some 114, .fadr 1, [.t 113], some (105, true)⟩,
⟨some 115, .load 1 false, [.t 114], some (105, true)⟩,
⟨some 116, .bin .leq, [.t 110, .t 115], some (105, true)⟩,
⟨some 117, .pick, [.t 105, .t 116, .k (.c (.s (.bool false)))], none⟩] []) (.cond (.t 117) (.seq (.reg [⟨some 2, .mv, [.k (.c (.s (.bool false)))], none⟩]) (.ret)) (.skip)))) (.reg [⟨some 92, .mv, [.t 6], none⟩,
⟨some 93, .bin .add, [.t 92, .k (.c (.s (.int .i64 1)))], none⟩,
⟨some 6, .mv, [.t 93], none⟩]))))))) (.reg [⟨some 71, .mv, [.t 5], none⟩,
⟨some 72, .bin .add, [.t 71, .k (.c (.s (.int .i64 1)))], none⟩,
⟨some 5, .mv, [.t 72], none⟩])))))) (.seq (.reg [⟨some 2, .mv, [.k (.c (.s (.bool true)))], none⟩]) (.ret)))))
noncomputable def G_ref03_Right : FuncId → Ab.Spec := noS
theorem G_ref03_Right_ok : ∀ f, Contract Try.prog f (G_ref03_Right f) := (noS_ok _)
set_option maxHeartbeats 16000000 in
set_option maxRecDepth 1000000 in
set_option linter.unusedSimpArgs false in
set_option linter.unusedVariables false in
theorem contract_ref03_Right : Contract Try.prog 13 (plain refRightG) := by
  have hb : ∃ c, Try.f13.body = some c ∧ codeOk 118 c = true ∧ cCode Try.prog c = sc_ref03_Right := ⟨_, rfl, by kernel_rfl, by kernel_rfl⟩
  obtain ⟨c, hb1, hb2, hb3⟩ := hb
  refine contract_of (n := 1) G_ref03_Right_ok hB hD Try.func13 hb1 (by kernel_rfl) hb2 hb3 (rs := [.tmp 2]) (by kernel_rfl) (by decide) ?_ ?_
  · intro args x h
    obtain ⟨y, hy, -⟩ := Option.map_eq_some_iff.1 h
    obtain ⟨⟨t, f⟩, rfl, -⟩ := specE_some hy
    rfl
  · intro args r hr
    obtain ⟨y, hy, rfl⟩ := Option.map_eq_some_iff.1 hr
    obtain ⟨⟨t, f⟩, rfl, hc, rfl⟩ := specE_some hy
    clear hr hy
    have hc : True := hc
    change awp _ _ (postQ _ (.v (.c (.s (.bool (rightT t)))))) _
    unfold refRightG_enc sc_ref03_Right
    by_cases h : 200 < (t.length : Int)
    case pos =>
      have hs : rightT t = false := by unfold rightT; rw [decide_eq_false (by omega)]; rfl
      rw [hs]
      simp (maxSteps := 4000000) only [h, go_sem, Nat.reduceAdd, Nat.reduceSub, Nat.reduceMul, Nat.reduceEqDiff, Nat.reduceLeDiff, Nat.reduceLT, Nat.reduceBEq, Int.reduceLE, Int.reduceLT, Int.reduceToNat, Int.reduceNeg, Int.reduceAdd, Int.reduceSub, Int.reduceMul, ↓reduceIte]
    have hlen : t.length ≤ 200 := by omega
    simp (maxSteps := 4000000) only [h, go_sem, Nat.reduceAdd, Nat.reduceSub, Nat.reduceMul, Nat.reduceEqDiff, Nat.reduceLeDiff, Nat.reduceLT, Nat.reduceBEq, Int.reduceLE, Int.reduceLT, Int.reduceToNat, Int.reduceNeg, Int.reduceAdd, Int.reduceSub, Int.reduceMul, ↓reduceIte]
    refine awp_loopM (α := Nat) (fun i => [(0, .c (.s (.list 3 (encs lnE t) f))), (3, .c (.s (.int .i64 i)))]) (fun _ => []) (fun i => t.length - i) 0 (fun i => i ≤ t.length ∧ ∀ j, j < i → okL t j = true) ⟨Nat.zero_le _, by simp⟩ (Weak.meets ?_) ?_
    · simp (maxSteps := 4000000) only [go_sem, Nat.reduceAdd, Nat.reduceSub, Nat.reduceMul, Nat.reduceEqDiff, Nat.reduceLeDiff, Nat.reduceLT, Nat.reduceBEq, Int.reduceLE, Int.reduceLT, Int.reduceToNat, Int.reduceNeg, Int.reduceAdd, Int.reduceSub, Int.reduceMul, ↓reduceIte]
      rfl
    rintro x ⟨hx, hw⟩
    by_cases hxl : x < t.length
    case pos =>
      have hxi : (x : Int) < (t.length : Int) := by omega
      have hbad := right_no_step hxl
      have hokx : okL t x = (soundB (t.getD x default) && decide ((t.getD x default).d ≤ if x = 0 then 0 else (t.getD (x - 1) default).d + 1)) := rfl
      have hgo : okL t x = true → ∀ j, j < x + 1 → okL t j = true := fun h j hj => by
        rcases Nat.lt_or_ge j x with q | q
        · exact hw j q
        · obtain rfl : j = x := by omega
          exact h
      generalize hL : t.getD x default = l at *
      obtain ⟨d, w, q⟩ := l
      have hun : soundB ⟨d, w, q⟩ = false → rightT t = false := fun h => hbad (by rw [hokx, h]; rfl)
      have hun2 : ∀ (P : Prop), P → (soundB ⟨d, w, q⟩ = true → ¬ P) → soundB ⟨d, w, q⟩ = false := fun P hp h => by
        cases hs : soundB ⟨d, w, q⟩ with
        | false => rfl
        | true => exact absurd hp (h hs)
      by_cases c1 : d < 0
      · rw [hun (hun2 _ c1 fun h => by have := (sound_iff _).1 h; simp only at this; omega)]
        simp (maxSteps := 4000000) only [hxi, hL, c1, go_sem, Nat.reduceAdd, Nat.reduceSub, Nat.reduceMul, Nat.reduceEqDiff, Nat.reduceLeDiff, Nat.reduceLT, Nat.reduceBEq, Int.reduceLE, Int.reduceLT, Int.reduceToNat, Int.reduceNeg, Int.reduceAdd, Int.reduceSub, Int.reduceMul, ↓reduceIte]
      by_cases c2 : 15 < d
      · rw [hun (hun2 _ c2 fun h => by have := (sound_iff _).1 h; simp only at this; omega)]
        simp (maxSteps := 4000000) only [hxi, hL, c1, c2, go_sem, Nat.reduceAdd, Nat.reduceSub, Nat.reduceMul, Nat.reduceEqDiff, Nat.reduceLeDiff, Nat.reduceLT, Nat.reduceBEq, Int.reduceLE, Int.reduceLT, Int.reduceToNat, Int.reduceNeg, Int.reduceAdd, Int.reduceSub, Int.reduceMul, ↓reduceIte]
      by_cases c3 : 40 < (w.length : Int)
      · rw [hun (hun2 _ c3 fun h => by have := (sound_iff _).1 h; simp only at this; omega)]
        simp (maxSteps := 4000000) only [hxi, hL, c1, c2, c3, go_sem, Nat.reduceAdd, Nat.reduceSub, Nat.reduceMul, Nat.reduceEqDiff, Nat.reduceLeDiff, Nat.reduceLT, Nat.reduceBEq, Int.reduceLE, Int.reduceLT, Int.reduceToNat, Int.reduceNeg, Int.reduceAdd, Int.reduceSub, Int.reduceMul, ↓reduceIte]
      by_cases c4 : q < 0
      · rw [hun (hun2 _ c4 fun h => by have := (sound_iff _).1 h; simp only at this; omega)]
        simp (maxSteps := 4000000) only [hxi, hL, c1, c2, c3, c4, go_sem, Nat.reduceAdd, Nat.reduceSub, Nat.reduceMul, Nat.reduceEqDiff, Nat.reduceLeDiff, Nat.reduceLT, Nat.reduceBEq, Int.reduceLE, Int.reduceLT, Int.reduceToNat, Int.reduceNeg, Int.reduceAdd, Int.reduceSub, Int.reduceMul, ↓reduceIte]
      by_cases c5 : 3 < q
      · rw [hun (hun2 _ c5 fun h => by have := (sound_iff _).1 h; simp only at this; omega)]
        simp (maxSteps := 4000000) only [hxi, hL, c1, c2, c3, c4, c5, go_sem, Nat.reduceAdd, Nat.reduceSub, Nat.reduceMul, Nat.reduceEqDiff, Nat.reduceLeDiff, Nat.reduceLT, Nat.reduceBEq, Int.reduceLE, Int.reduceLT, Int.reduceToNat, Int.reduceNeg, Int.reduceAdd, Int.reduceSub, Int.reduceMul, ↓reduceIte]
      have hsd : soundB ⟨d, w, q⟩ = true := (sound_iff _).2 (by simp only; omega)
      rw [hsd, Bool.true_and] at hokx
      have hs := (sound_iff _).1 hsd
      simp only at hs hokx
      cases x with
      | zero =>
        have z1 : ((((0 : Nat) : Int)) = 0) = True := by simp
        have z0 : ¬ (0 : Int) < ((0 : Nat) : Int) := by omega
        rw [if_pos rfl] at hokx
        by_cases hd0 : d = 0
        · have := hgo (by rw [hokx, decide_eq_true (by omega)])
          simp (maxSteps := 4000000) only [hxi, hL, c1, c2, c3, c4, c5, z1, hd0, z0, go_sem, Nat.reduceAdd, Nat.reduceSub, Nat.reduceMul, Nat.reduceEqDiff, Nat.reduceLeDiff, Nat.reduceLT, Nat.reduceBEq, Int.reduceLE, Int.reduceLT, Int.reduceToNat, Int.reduceNeg, Int.reduceAdd, Int.reduceSub, Int.reduceMul, ↓reduceIte]
          exact ⟨by omega, 0 + 1, ⟨by omega, this⟩, by omega, rfl⟩
        · rw [hbad (by rw [hokx, decide_eq_false (by omega)])]
          simp (maxSteps := 4000000) only [hxi, hL, c1, c2, c3, c4, c5, z1, hd0, go_sem, Nat.reduceAdd, Nat.reduceSub, Nat.reduceMul, Nat.reduceEqDiff, Nat.reduceLeDiff, Nat.reduceLT, Nat.reduceBEq, Int.reduceLE, Int.reduceLT, Int.reduceToNat, Int.reduceNeg, Int.reduceAdd, Int.reduceSub, Int.reduceMul, ↓reduceIte]
      | succ y =>
        have z1 : ((((y + 1 : Nat) : Int)) = 0) = False := by simp; omega
        have z2 : 0 < ((y + 1 : Nat) : Int) := by omega
        have z3 : (((y + 1 : Nat) : Int)) - 1 = y := by omega
        have z4 : (y : Int) < (t.length : Int) := by omega
        have hy := hw y (by omega)
        unfold okL at hy
        rw [Bool.and_eq_true] at hy
        have hys := (sound_iff _).1 hy.1
        rw [if_neg (by omega), Nat.add_sub_cancel] at hokx
        by_cases hd0 : (t.getD y default).d + 1 < d
        · rw [hbad (by rw [hokx, decide_eq_false (by omega)])]
          simp (maxSteps := 4000000) only [hxi, hL, c1, c2, c3, c4, c5, z1, z2, z3, z4, hd0, go_sem, Nat.reduceAdd, Nat.reduceSub, Nat.reduceMul, Nat.reduceEqDiff, Nat.reduceLeDiff, Nat.reduceLT, Nat.reduceBEq, Int.reduceLE, Int.reduceLT, Int.reduceToNat, Int.reduceNeg, Int.reduceAdd, Int.reduceSub, Int.reduceMul, ↓reduceIte]
          omega
        · have := hgo (by rw [hokx, decide_eq_true (by omega)])
          simp (maxSteps := 4000000) only [hxi, hL, c1, c2, c3, c4, c5, z1, z2, z3, z4, hd0, go_sem, Nat.reduceAdd, Nat.reduceSub, Nat.reduceMul, Nat.reduceEqDiff, Nat.reduceLeDiff, Nat.reduceLT, Nat.reduceBEq, Int.reduceLE, Int.reduceLT, Int.reduceToNat, Int.reduceNeg, Int.reduceAdd, Int.reduceSub, Int.reduceMul, ↓reduceIte]
          exact ⟨by omega, by omega, by omega, y + 1 + 1, ⟨by omega, this⟩, by omega, by simp⟩
    have hxi : ¬ (x : Int) < (t.length : Int) := by omega
    obtain rfl : x = t.length := by omega
    simp (maxSteps := 4000000) only [hxi, go_sem, Nat.reduceAdd, Nat.reduceSub, Nat.reduceMul, Nat.reduceEqDiff, Nat.reduceLeDiff, Nat.reduceLT, Nat.reduceBEq, Int.reduceLE, Int.reduceLT, Int.reduceToNat, Int.reduceNeg, Int.reduceAdd, Int.reduceSub, Int.reduceMul, ↓reduceIte]
    refine awp_loopM (α := Nat) (fun i => [(0, .c (.s (.list 3 (encs lnE t) f))), (5, .c (.s (.int .i64 i)))]) (fun _ => []) (fun i => t.length - i) 0 (fun i => i ≤ t.length ∧ ∀ j, j < i → fw (t.getD j default).d (t.getD j default).w (t.drop (j + 1)) = true) ⟨Nat.zero_le _, by simp⟩ (Weak.meets ?_) ?_
    · simp (maxSteps := 4000000) only [go_sem, Nat.reduceAdd, Nat.reduceSub, Nat.reduceMul, Nat.reduceEqDiff, Nat.reduceLeDiff, Nat.reduceLT, Nat.reduceBEq, Int.reduceLE, Int.reduceLT, Int.reduceToNat, Int.reduceNeg, Int.reduceAdd, Int.reduceSub, Int.reduceMul, ↓reduceIte]
      rfl
    rintro y ⟨hy, hv⟩
    by_cases hyl : y < t.length
    case neg =>
      have hyi : ¬ (y : Int) < (t.length : Int) := by omega
      obtain rfl : y = t.length := by omega
      rw [right_yes hlen hw hv]
      simp (maxSteps := 4000000) only [hyi, go_sem, Nat.reduceAdd, Nat.reduceSub, Nat.reduceMul, Nat.reduceEqDiff, Nat.reduceLeDiff, Nat.reduceLT, Nat.reduceBEq, Int.reduceLE, Int.reduceLT, Int.reduceToNat, Int.reduceNeg, Int.reduceAdd, Int.reduceSub, Int.reduceMul, ↓reduceIte]
    have hyi : (y : Int) < (t.length : Int) := by omega
    have hbad := right_no_fw hyl
    have hgo : fw (t.getD y default).d (t.getD y default).w (t.drop (y + 1)) = true → ∀ j, j < y + 1 → fw (t.getD j default).d (t.getD j default).w (t.drop (j + 1)) = true := fun h j hj => by
      rcases Nat.lt_or_ge j y with q | q
      · exact hv j q
      · obtain rfl : j = y := by omega
        exact h
    simp (maxSteps := 4000000) only [hyi, go_sem, Nat.reduceAdd, Nat.reduceSub, Nat.reduceMul, Nat.reduceEqDiff, Nat.reduceLeDiff, Nat.reduceLT, Nat.reduceBEq, Int.reduceLE, Int.reduceLT, Int.reduceToNat, Int.reduceNeg, Int.reduceAdd, Int.reduceSub, Int.reduceMul, ↓reduceIte]
    refine ⟨by omega, ?_⟩
    refine awp_loopM (α := Nat) (fun k => [(0, .c (.s (.list 3 (encs lnE t) f))), (5, .c (.s (.int .i64 y))), (6, .c (.s (.int .i64 k)))]) (fun _ => []) (fun k => t.length - k) (y + 1) (fun k => (y + 1 ≤ k ∧ k ≤ t.length) ∧ fw (t.getD y default).d (t.getD y default).w (t.drop (y + 1)) = fw (t.getD y default).d (t.getD y default).w (t.drop k)) ⟨⟨Nat.le_refl _, hyl⟩, rfl⟩ (Weak.meets ?_) ?_
    · simp (maxSteps := 4000000) only [go_sem, Nat.reduceAdd, Nat.reduceSub, Nat.reduceMul, Nat.reduceEqDiff, Nat.reduceLeDiff, Nat.reduceLT, Nat.reduceBEq, Int.reduceLE, Int.reduceLT, Int.reduceToNat, Int.reduceNeg, Int.reduceAdd, Int.reduceSub, Int.reduceMul, ↓reduceIte]
      simp
    rintro k ⟨⟨hk1, hk⟩, hf⟩
    by_cases hkl : k < t.length
    case neg =>
      have hki : ¬ (k : Int) < (t.length : Int) := by omega
      have hdn : t.drop k = [] := List.drop_eq_nil_of_le (by omega)
      rw [hdn] at hf
      have := hgo hf
      simp (maxSteps := 4000000) only [hki, go_sem, Nat.reduceAdd, Nat.reduceSub, Nat.reduceMul, Nat.reduceEqDiff, Nat.reduceLeDiff, Nat.reduceLT, Nat.reduceBEq, Int.reduceLE, Int.reduceLT, Int.reduceToNat, Int.reduceNeg, Int.reduceAdd, Int.reduceSub, Int.reduceMul, ↓reduceIte]
      exact ⟨by omega, y + 1, ⟨by omega, this⟩, by omega, by simp⟩
    have hki : (k : Int) < (t.length : Int) := by omega
    rw [fw_drop hkl] at hf
    by_cases hd : (t.getD y default).d ≤ (t.getD k default).d
    case neg =>
      rw [if_pos (by omega)] at hf
      have := hgo hf
      simp (maxSteps := 4000000) only [hki, hyi, hd, go_sem, Nat.reduceAdd, Nat.reduceSub, Nat.reduceMul, Nat.reduceEqDiff, Nat.reduceLeDiff, Nat.reduceLT, Nat.reduceBEq, Int.reduceLE, Int.reduceLT, Int.reduceToNat, Int.reduceNeg, Int.reduceAdd, Int.reduceSub, Int.reduceMul, ↓reduceIte]
      exact ⟨by omega, y + 1, ⟨by omega, this⟩, by omega, by simp⟩
    rw [if_neg (by omega)] at hf
    by_cases he : (t.getD k default).d = (t.getD y default).d
    case neg =>
      rw [decide_eq_false he] at hf
      simp (maxSteps := 4000000) only [hki, hyi, hd, he, go_sem, Nat.reduceAdd, Nat.reduceSub, Nat.reduceMul, Nat.reduceEqDiff, Nat.reduceLeDiff, Nat.reduceLT, Nat.reduceBEq, Int.reduceLE, Int.reduceLT, Int.reduceToNat, Int.reduceNeg, Int.reduceAdd, Int.reduceSub, Int.reduceMul, ↓reduceIte]
      exact ⟨by omega, k + 1, ⟨⟨by omega, by omega⟩, hf⟩, by omega, by simp⟩
    rw [decide_eq_true he] at hf
    have he' : ((t.getD k default).d = (t.getD y default).d) = True := eq_true he
    cases hle : leB (t.getD k default).w (t.getD y default).w with
    | true =>
      rw [hle] at hf
      rw [hbad hf]
      simp (maxSteps := 4000000) only [hki, hyi, hd, he', hle, go_sem, Nat.reduceAdd, Nat.reduceSub, Nat.reduceMul, Nat.reduceEqDiff, Nat.reduceLeDiff, Nat.reduceLT, Nat.reduceBEq, Int.reduceLE, Int.reduceLT, Int.reduceToNat, Int.reduceNeg, Int.reduceAdd, Int.reduceSub, Int.reduceMul, ↓reduceIte]
    | false =>
      rw [hle] at hf
      simp (maxSteps := 4000000) only [hki, hyi, hd, he', hle, go_sem, Nat.reduceAdd, Nat.reduceSub, Nat.reduceMul, Nat.reduceEqDiff, Nat.reduceLeDiff, Nat.reduceLT, Nat.reduceBEq, Int.reduceLE, Int.reduceLT, Int.reduceToNat, Int.reduceNeg, Int.reduceAdd, Int.reduceSub, Int.reduceMul, ↓reduceIte]
      exact ⟨by omega, k + 1, ⟨⟨by omega, by omega⟩, hf⟩, by omega, by simp⟩

theorem ln_snoc {l : List Ln} {d : Int} {w : Bs} {q : Int} : encs lnE l ++ [[.int .i64 d, .str w, .int .i64 q]] = encs lnE (l ++ [⟨d, w, q⟩]) := by
  rw [encs_append]; rfl
def refSubG_enc : (List Ln) × (Bool) × (Int) → List V := fun ⟨t, f, i⟩ => [.c (.s (.list 3 (encs lnE t) f)), .c (.s (.int .i64 i))]
theorem refSubG_inj : ∀ x y, refSubG_enc x = refSubG_enc y → x = y := by
  rintro ⟨t, f, i⟩ ⟨t2, f2, i2⟩ h
  simp only [refSubG_enc, List.cons.injEq, V.c.injEq, V.agg.injEq, C.s.injEq, S.list.injEq, S.str.injEq, S.int.injEq, S.bool.injEq, S.fn.injEq, S.cref.injEq, strE_inj, true_and, and_true, lnE_inj] at h
  simp_all
noncomputable def refSubG : List V → Option (V) := specE refSubG_enc (fun ⟨t, f, i⟩ => thereB t i = true) (fun ⟨t, f, i⟩ => .c (.s (.list 3 (encs lnE (subT t i.toNat)) false)))
theorem refSubG_eq {t : List Ln} {f : Bool} {i : Int} [Decidable (thereB t i = true)] : refSubG [.c (.s (.list 3 (encs lnE t) f)), .c (.s (.int .i64 i))] = if thereB t i = true then some (.c (.s (.list 3 (encs lnE (subT t i.toNat)) false))) else none := specE_eq refSubG_inj (t, f, i)
theorem refSubG_call {t : List Ln} {f : Bool} {i : Int} {gt : Bool} {K : V → Prop} : callE refSubG [.c (.s (.list 3 (encs lnE t) f)), .c (.s (.int .i64 i))] gt K = ((gt = true → thereB t i = true) ∧ bindV (ifV gt (.c (.s (.list 3 (encs lnE (subT t i.toNat)) false)))) K) := by
  have := Classical.propDecidable (thereB t i = true)
  exact callE_of refSubG_eq
theorem refSubG_callo {t : List Ln} {f : Bool} {i : Int} {m : Nat → Option Ab.Obj} {locs : List Nat} {K : V → (Nat → Option Ab.Obj) → Prop} : callO refSubG (some [.c (.s (.list 3 (encs lnE t) f)), .c (.s (.int .i64 i))]) m locs K = ((thereB t i = true) ∧ K (.c (.s (.list 3 (encs lnE (subT t i.toNat)) false))) (sealW m locs (.c (.s (.list 3 (encs lnE (subT t i.toNat)) false))))) := by
  have := Classical.propDecidable (thereB t i = true)
  exact callO_of refSubG_eq
attribute [go_sem] refSubG_call refSubG_callo

def sc_ref03_Sub : SC := .seq (.reg [⟨some 4, .mv, [.k (.c (.s (.list 0 [] true)))], none⟩]) (.seq (.reg [⟨some 5, .mv, [.k (.c (.s (.list 0 [] true)))], none⟩]) (.seq (.seq (.reg [⟨some 7, .mv, [.t 1], none⟩,
⟨some 6, .mv, [.t 7], none⟩]) (.block 0 (.loop (.seq (.seq (.reg [⟨some 8, .mv, [.t 6], none⟩,
⟨some 9, .mv, [.t 0], none⟩,
⟨some 10, .mv, [.t 1], none⟩,
⟨some 11, .call 29, [.t 9, .t 10], none⟩,
⟨some 12, .bin .lss, [.t 8, .t 11], none⟩]) (.cond (.t 12) (.skip) (.exit 0))) (.seq (.block 1 (.regD [⟨some 15, .mv, [.t 5], none⟩,
⟨some 16, .mv, [.t 0], none⟩,
⟨some 17, .mv, [.t 6], none⟩,
⟨some 18, .iadr 3, [.t 16, .t 17], none⟩,
⟨some 19, .fadr 0, [.t 18], none⟩,
⟨some 20, .load 1 false, [.t 19], none⟩,
⟨some 21, .mv, [.t 0], none⟩,
⟨some 22, .mv, [.t 1], none⟩,
⟨some 23, .iadr 3, [.t 21, .t 22], none⟩,
⟨some 24, .fadr 0, [.t 23], none⟩,
⟨some 25, .load 1 false, [.t 24], none⟩,
⟨some 26, .bin .sub, [.t 20, .t 25], none⟩,
⟨some 27, .mv, [.t 0], none⟩,
⟨some 28, .mv, [.t 6], none⟩,
⟨some 29, .iadr 3, [.t 27, .t 28], none⟩,
⟨some 30, .fadr 1, [.t 29], none⟩,
⟨some 31, .load 1 false, [.t 30], none⟩,
⟨some 32, .mv, [.t 0], none⟩,
⟨some 33, .mv, [.t 6], none⟩,
⟨some 34, .iadr 3, [.t 32, .t 33], none⟩,
⟨some 35, .fadr 2, [.t 34], none⟩,
⟨some 36, .load 1 false, [.t 35], none⟩,
⟨some 37, .build [.int .i64 0, .str [], .int .i64 0] [(0, 1), (1, 1), (2, 1)], [.t 26, .t 31, .t 36], none⟩,
⟨some 38, .bslice 3 1 [.int .i64 0, .str [], .int .i64 0] [0], [.t 37], none⟩,
⟨some 39, .append false 3 32, [.t 15, .t 38], none⟩,
⟨some 5, .mv, [.t 39], none⟩] [])) (.reg [⟨some 13, .mv, [.t 6], none⟩,
⟨some 14, .bin .add, [.t 13, .k (.c (.s (.int .i64 1)))], none⟩,
⟨some 6, .mv, [.t 14], none⟩])))))) (.seq (.reg [⟨some 40, .mv, [.t 5], none⟩,
⟨some 4, .mv, [.t 40], none⟩]) (.ret))))
noncomputable def G_ref03_Sub : FuncId → Ab.Spec := addS (noS) 29 (plain refEndG)
theorem G_ref03_Sub_ok : ∀ f, Contract Try.prog f (G_ref03_Sub f) := (addS_ok (noS_ok _) contract_ref03_End)
theorem G15_29 : G_ref03_Sub 29 = plain refEndG := by simp [G_ref03_Sub, addS]
set_option maxHeartbeats 16000000 in
set_option maxRecDepth 1000000 in
set_option linter.unusedSimpArgs false in
set_option linter.unusedVariables false in
theorem contract_ref03_Sub : Contract Try.prog 15 (plain refSubG) := by
  have hb : ∃ c, Try.f15.body = some c ∧ codeOk 41 c = true ∧ cCode Try.prog c = sc_ref03_Sub := ⟨_, rfl, by kernel_rfl, by kernel_rfl⟩
  obtain ⟨c, hb1, hb2, hb3⟩ := hb
  refine contract_of (n := 2) G_ref03_Sub_ok hB hD Try.func15 hb1 (by kernel_rfl) hb2 hb3 (rs := [.tmp 4]) (by kernel_rfl) (by decide) ?_ ?_
  · intro args x h
    obtain ⟨y, hy, -⟩ := Option.map_eq_some_iff.1 h
    obtain ⟨⟨t, f, i⟩, rfl, -⟩ := specE_some hy
    rfl
  · intro args r hr
    obtain ⟨y, hy, rfl⟩ := Option.map_eq_some_iff.1 hr
    obtain ⟨⟨t, f, i⟩, rfl, hc, rfl⟩ := specE_some hy
    clear hr hy
    have hc : thereB t i = true := hc
    change awp _ _ (postQ _ (.v (.c (.s (.list 3 (encs lnE (subT t i.toNat)) false))))) _
    unfold refSubG_enc sc_ref03_Sub
    obtain ⟨k, rfl, hk, hr, hl⟩ := there_nat hc
    obtain ⟨e1, e2, -, -⟩ := endN_spec hk
    have hki : (k : Int) < (t.length : Int) := by omega
    have hl4 : t.length < 4000000 := by omega
    rw [Int.toNat_natCast]
    have hsd : ∀ l ∈ t, 0 ≤ l.d ∧ l.d < 16 := fun l hm => ((sound_iff l).1 (goS_sound (right_len hr).2 l hm)).1
    have d1 := hsd _ (mem_getD hk)
    have hsub := subT_eq t k
    generalize hE : endN t k = e at *
    have hsl : (subT t k).length = e - k := by rw [hsub]; simp; omega
    have hget : ∀ x, k + x < e → (subT t k).take (x + 1) = (subT t k).take x ++ [shL (t.getD k default).d (t.getD (k + x) default)] := fun x hx => by
      rw [take_getD (by omega)]
      congr 2
      rw [hsub, List.getD_eq_getElem?_getD, List.getElem?_map, List.getElem?_drop, List.getElem?_take_of_lt (by omega), List.getD_eq_getElem?_getD (l := t) (i := k + x), List.getElem?_eq_getElem (by omega : k + x < t.length)]
      rfl
    generalize hS : subT t k = s at *
    clear hsub
    simp (maxSteps := 4000000) only [↓exT_call G15_29, ↓exT_callo G15_29, ↓exT_calloG G15_29, go_sem, Nat.reduceAdd, Nat.reduceSub, Nat.reduceMul, Nat.reduceEqDiff, Nat.reduceLeDiff, Nat.reduceLT, Nat.reduceBEq, Int.reduceLE, Int.reduceLT, Int.reduceToNat, Int.reduceNeg, Int.reduceAdd, Int.reduceSub, Int.reduceMul, ↓reduceIte]
    refine awp_loopM (α := Nat) (fun x => [(0, .c (.s (.list 3 (encs lnE t) f))), (1, .c (.s (.int .i64 k))), (5, .c (.own 5 (s.take x).length)), (6, .c (.s (.int .i64 (k + x : Nat))))])
      (fun x => [(5, .row 3 (encs lnE (s.take x)))]) (fun x => s.length - x) 0 (fun x => x ≤ s.length) (Nat.zero_le _) (Weak.trans (Weak.nilSlot 5 5 3 rfl rfl) (Weak.meets ?_)) ?_
    · simp (maxSteps := 4000000) only [↓exT_call G15_29, ↓exT_callo G15_29, ↓exT_calloG G15_29, go_sem, Nat.reduceAdd, Nat.reduceSub, Nat.reduceMul, Nat.reduceEqDiff, Nat.reduceLeDiff, Nat.reduceLT, Nat.reduceBEq, Int.reduceLE, Int.reduceLT, Int.reduceToNat, Int.reduceNeg, Int.reduceAdd, Int.reduceSub, Int.reduceMul, ↓reduceIte]
      simp
    intro x hx
    by_cases hxl : x < s.length
    case neg =>
      obtain rfl : x = s.length := by omega
      have hxi : ¬ ((k + s.length : Nat) : Int) < (e : Int) := by omega
      rw [List.take_length]
      simp (maxSteps := 4000000) only [↓exT_call G15_29, ↓exT_callo G15_29, ↓exT_calloG G15_29, hki, hl4, hE, hxi, go_sem, Nat.reduceAdd, Nat.reduceSub, Nat.reduceMul, Nat.reduceEqDiff, Nat.reduceLeDiff, Nat.reduceLT, Nat.reduceBEq, Int.reduceLE, Int.reduceLT, Int.reduceToNat, Int.reduceNeg, Int.reduceAdd, Int.reduceSub, Int.reduceMul, ↓reduceIte]
    have hxi : ((k + x : Nat) : Int) < (e : Int) := by omega
    have hxt : ((k + x : Nat) : Int) < (t.length : Int) := by omega
    have hxb := hget x (by omega)
    have d2 := hsd _ (mem_getD (l := t) (i := k + x) (by omega))
    have htl : (s.take x).length = x := by simp; omega
    unfold shL at hxb
    simp (maxSteps := 4000000) only [↓exT_call G15_29, ↓exT_callo G15_29, ↓exT_calloG G15_29, hki, hl4, hE, hxi, hxt, ln_snoc, go_sem, Nat.reduceAdd, Nat.reduceSub, Nat.reduceMul, Nat.reduceEqDiff, Nat.reduceLeDiff, Nat.reduceLT, Nat.reduceBEq, Int.reduceLE, Int.reduceLT, Int.reduceToNat, Int.reduceNeg, Int.reduceAdd, Int.reduceSub, Int.reduceMul, ↓reduceIte]
    exact ⟨by omega, by omega, by omega, x + 1, by omega, by omega, ⟨by rw [hxb]; simp, by omega⟩, by rw [hxb]⟩

def refTextG_enc : (List Ln) × (Bool) → List V := fun ⟨t, f⟩ => [.c (.s (.list 3 (encs lnE t) f))]
theorem refTextG_inj : ∀ x y, refTextG_enc x = refTextG_enc y → x = y := by
  rintro ⟨t, f⟩ ⟨t2, f2⟩ h
  simp only [refTextG_enc, List.cons.injEq, V.c.injEq, V.agg.injEq, C.s.injEq, S.list.injEq, S.str.injEq, S.int.injEq, S.bool.injEq, S.fn.injEq, S.cref.injEq, strE_inj, true_and, and_true, lnE_inj] at h
  simp_all
noncomputable def refTextG : List V → Option (V) := specE refTextG_enc (fun ⟨t, f⟩ => rightT t = true) (fun ⟨t, f⟩ => .c (.s (.str (textT t))))
theorem refTextG_eq {t : List Ln} {f : Bool} [Decidable (rightT t = true)] : refTextG [.c (.s (.list 3 (encs lnE t) f))] = if rightT t = true then some (.c (.s (.str (textT t)))) else none := specE_eq refTextG_inj (t, f)
theorem refTextG_call {t : List Ln} {f : Bool} {gt : Bool} {K : V → Prop} : callE refTextG [.c (.s (.list 3 (encs lnE t) f))] gt K = ((gt = true → rightT t = true) ∧ bindV (ifV gt (.c (.s (.str (textT t))))) K) := by
  have := Classical.propDecidable (rightT t = true)
  exact callE_of refTextG_eq
theorem refTextG_callo {t : List Ln} {f : Bool} {m : Nat → Option Ab.Obj} {locs : List Nat} {K : V → (Nat → Option Ab.Obj) → Prop} : callO refTextG (some [.c (.s (.list 3 (encs lnE t) f))]) m locs K = ((rightT t = true) ∧ K (.c (.s (.str (textT t)))) (sealW m locs (.c (.s (.str (textT t)))))) := by
  have := Classical.propDecidable (rightT t = true)
  exact callO_of refTextG_eq
attribute [go_sem] refTextG_call refTextG_callo

def sc_ref04_Text : SC := .seq (.reg [⟨some 2, .mv, [.k (.c (.s (.str [])))], none⟩]) (.seq (.reg [⟨some 3, .mv, [.k (.c (.s (.str [])))], none⟩]) (.seq (.seq (.reg [⟨some 4, .mv, [.k (.c (.s (.int .i64 0)))], none⟩]) (.block 0 (.loop (.seq (.seq (.reg [⟨some 8, .mv, [.t 4], none⟩,
⟨some 9, .mv, [.t 0], none⟩,
⟨some 10, .len false, [.t 9], none⟩,
⟨some 11, .bin .lss, [.t 8, .t 10], none⟩]) (.cond (.t 11) (.skip) (.exit 0))) (.seq (.block 1 (.seq (.reg [⟨some 14, .mv, [.t 0], none⟩,
⟨some 15, .mv, [.t 4], none⟩,
⟨some 16, .iadr 3, [.t 14, .t 15], none⟩,
⟨some 17, .load 3 true, [.t 16], none⟩,
⟨some 5, .alloc [.int .i64 0, .str [], .int .i64 0], [], none⟩,
⟨none, .store 3 true, [.t 5, .t 17], none⟩]) (.seq (.reg [⟨some 18, .mv, [.t 3], none⟩,
⟨some 19, .fadr 0, [.t 5], none⟩,
⟨some 20, .load 1 false, [.t 19], none⟩,
⟨some 21, .call 27, [.t 20], none⟩,
⟨some 22, .bin .add, [.t 18, .t 21], none⟩,
⟨some 3, .mv, [.t 22], none⟩]) (.seq (.seq (.reg [⟨some 23, .fadr 2, [.t 5], none⟩,
⟨some 24, .load 1 false, [.t 23], none⟩,
⟨some 25, .bin .rem, [.t 24, .k (.c (.s (.int .i64 2)))], none⟩,
⟨some 26, .bin .eql, [.t 25, .k (.c (.s (.int .i64 1)))], none⟩]) (.cond (.t 26) (.reg [⟨some 27, .mv, [.t 3], none⟩,
⟨some 28, .bin .add, [.t 27, .k (.c (.s (.str [105, 110, 97, 99, 116, 105, 118, 101, 58, 32])))], none⟩,
⟨some 3, .mv, [.t 28], none⟩]) (.skip))) (.seq (.seq (.reg [⟨some 29, .fadr 2, [.t 5], none⟩,
⟨some 30, .load 1 false, [.t 29], none⟩,
⟨some 31, .bin .gtr, [.t 30, .k (.c (.s (.int .i64 1)))], none⟩]) (.cond (.t 31) (.reg [⟨some 32, .mv, [.t 3], none⟩,
⟨some 33, .bin .add, [.t 32, .k (.c (.s (.str [112, 114, 111, 116, 101, 99, 116, 58, 32])))], none⟩,
⟨some 3, .mv, [.t 33], none⟩]) (.skip))) (.seq (.reg [⟨some 34, .mv, [.t 3], none⟩,
⟨some 35, .fadr 1, [.t 5], none⟩,
⟨some 36, .load 1 false, [.t 35], none⟩,
⟨some 37, .call 28, [.t 36], none⟩,
⟨some 38, .bin .add, [.t 34, .t 37], none⟩,
⟨some 3, .mv, [.t 38], none⟩]) (.seq (.seq (.reg [⟨some 39, .mv, [.t 0], none⟩,
⟨some 40, .mv, [.t 4], none⟩,
⟨some 41, .call 29, [.t 39, .t 40], none⟩,
⟨some 42, .mv, [.t 4], none⟩,
⟨some 43, .bin .add, [.t 42, .k (.c (.s (.int .i64 1)))], none⟩,
⟨some 44, .bin .gtr, [.t 41, .t 43], none⟩]) (.cond (.t 44) (.reg [⟨some 45, .mv, [.t 3], none⟩,
⟨some 46, .bin .add, [.t 45, .k (.c (.s (.str [32, 123, 10])))], none⟩,
⟨some 3, .mv, [.t 46], none⟩]) (.reg [⟨some 47, .mv, [.t 3], none⟩,
⟨some 48, .bin .add, [.t 47, .k (.c (.s (.str [59, 10])))], none⟩,
⟨some 3, .mv, [.t 48], none⟩]))) (.seq (.reg [⟨some 49, .fadr 0, [.t 5], none⟩,
⟨some 50, .load 1 false, [.t 49], none⟩,
⟨some 51, .bin .sub, [.t 50, .k (.c (.s (.int .i64 1)))], none⟩,
⟨some 6, .mv, [.t 51], none⟩]) (.block 2 (.loop (.seq (.seq (.reg [⟨some 52, .mv, [.t 6], none⟩,
⟨some 53, .bin .geq, [.t 52, .k (.c (.s (.int .i64 0)))], none⟩]) (.cond (.t 53) (.skip) (.exit 2))) (.seq (.block 3 (.seq (.reg [⟨some 56, .mv, [.t 4], none⟩,
⟨some 7, .mv, [.t 56], none⟩]) (.seq (.block 4 (.loop (.seq (.seq (.reg [⟨some 57, .mv, [.t 0], none⟩,
⟨some 58, .mv, [.t 7], none⟩,
⟨some 59, .iadr 3, [.t 57, .t 58], none⟩,
⟨some 60, .fadr 0, [.t 59], none⟩,
⟨some 61, .load 1 false, [.t 60], none⟩,
⟨some 62, .mv, [.t 6], none⟩,
⟨some 63, .bin .gtr, [.t 61, .t 62], none⟩]) (.cond (.t 63) (.skip) (.exit 4))) (.block 5 (.reg [⟨some 64, .mv, [.t 7], none⟩,
⟨some 65, .bin .sub, [.t 64, .k (.c (.s (.int .i64 1)))], none⟩,
⟨some 7, .mv, [.t 65], none⟩]))))) (.seq (.reg [⟨some 66, .mv, [.t 0], none⟩,
⟨some 67, .mv, [.t 7], none⟩,
⟨some 68, .call 29, [.t 66, .t 67], none⟩,
⟨some 69, .mv, [.t 4], none⟩,
⟨some 70, .bin .add, [.t 69, .k (.c (.s (.int .i64 1)))], none⟩,
⟨some 71, .bin .eql, [.t 68, .t 70], none⟩]) (.cond (.t 71) (.reg [⟨some 72, .mv, [.t 3], none⟩,
⟨some 73, .mv, [.t 6], none⟩,
⟨some 74, .call 27, [.t 73], none⟩,
⟨some 75, .bin .add, [.t 72, .t 74], none⟩,
⟨some 76, .bin .add, [.t 75, .k (.c (.s (.str [125, 10])))], none⟩,
⟨some 3, .mv, [.t 76], none⟩]) (.skip)))))) (.reg [⟨some 54, .mv, [.t 6], none⟩,
⟨some 55, .bin .sub, [.t 54, .k (.c (.s (.int .i64 1)))], none⟩,
⟨some 6, .mv, [.t 55], none⟩]))))))))))))) (.reg [⟨some 12, .mv, [.t 4], none⟩,
⟨some 13, .bin .add, [.t 12, .k (.c (.s (.int .i64 1)))], none⟩,
⟨some 4, .mv, [.t 13], none⟩])))))) (.seq (.reg [⟨some 77, .mv, [.t 3], none⟩,
⟨some 2, .mv, [.t 77], none⟩]) (.ret))))
noncomputable def G_ref04_Text : FuncId → Ab.Spec := addS (addS (addS (noS) 27 (plain rblanksG)) 28 (plain rquoteG)) 29 (plain refEndG)
theorem G_ref04_Text_ok : ∀ f, Contract Try.prog f (G_ref04_Text f) := (addS_ok (addS_ok (addS_ok (noS_ok _) contract_ref04_blanks) contract_ref01_Quote) contract_ref03_End)
theorem G14_27 : G_ref04_Text 27 = plain rblanksG := by simp [G_ref04_Text, addS]
theorem G14_28 : G_ref04_Text 28 = plain rquoteG := by simp [G_ref04_Text, addS]
theorem G14_29 : G_ref04_Text 29 = plain refEndG := by simp [G_ref04_Text, addS]
set_option maxHeartbeats 16000000 in
set_option maxRecDepth 1000000 in
set_option linter.unusedSimpArgs false in
set_option linter.unusedVariables false in
theorem contract_ref04_Text : Contract Try.prog 14 (plain refTextG) := by
  have hb : ∃ c, Try.f14.body = some c ∧ codeOk 78 c = true ∧ cCode Try.prog c = sc_ref04_Text := ⟨_, rfl, by kernel_rfl, by kernel_rfl⟩
  obtain ⟨c, hb1, hb2, hb3⟩ := hb
  refine contract_of (n := 1) G_ref04_Text_ok hB hD Try.func14 hb1 (by kernel_rfl) hb2 hb3 (rs := [.tmp 2]) (by kernel_rfl) (by decide) ?_ ?_
  · intro args x h
    obtain ⟨y, hy, -⟩ := Option.map_eq_some_iff.1 h
    obtain ⟨⟨t, f⟩, rfl, -⟩ := specE_some hy
    rfl
  · intro args r hr
    obtain ⟨y, hy, rfl⟩ := Option.map_eq_some_iff.1 hr
    obtain ⟨⟨t, f⟩, rfl, hc, rfl⟩ := specE_some hy
    clear hr hy
    have hc : rightT t = true := hc
    change awp _ _ (postQ _ (.v (.c (.s (.str (textT t)))))) _
    unfold refTextG_enc sc_ref04_Text
    obtain ⟨hl, hg⟩ := right_len hc
    have hsd : ∀ l ∈ t, soundB l = true := goS_sound hg
    have htl := text_len hsd
    have hl4 : t.length < 4000000 := by omega
    simp (maxSteps := 4000000) only [↓exT_call G14_27, ↓exT_callo G14_27, ↓exT_calloG G14_27, ↓exT_call G14_28, ↓exT_callo G14_28, ↓exT_calloG G14_28, ↓exT_call G14_29, ↓exT_callo G14_29, ↓exT_calloG G14_29, go_sem, Nat.reduceAdd, Nat.reduceSub, Nat.reduceMul, Nat.reduceEqDiff, Nat.reduceLeDiff, Nat.reduceLT, Nat.reduceBEq, Int.reduceLE, Int.reduceLT, Int.reduceToNat, Int.reduceNeg, Int.reduceAdd, Int.reduceSub, Int.reduceMul, ↓reduceIte]
    refine awp_loopM (α := Nat × Bs) (fun y => [(0, .c (.s (.list 3 (encs lnE t) f))), (3, .c (.s (.str y.2))), (4, .c (.s (.int .i64 y.1)))]) (fun _ => []) (fun y => t.length - y.1) (0, []) (fun y => y.1 ≤ t.length ∧ y.2 ++ textT (t.drop y.1) = textT t) ⟨Nat.zero_le _, rfl⟩ (Weak.meets ?_) ?_
    · simp (maxSteps := 4000000) only [↓exT_call G14_27, ↓exT_callo G14_27, ↓exT_calloG G14_27, ↓exT_call G14_28, ↓exT_callo G14_28, ↓exT_calloG G14_28, ↓exT_call G14_29, ↓exT_callo G14_29, ↓exT_calloG G14_29, go_sem, Nat.reduceAdd, Nat.reduceSub, Nat.reduceMul, Nat.reduceEqDiff, Nat.reduceLeDiff, Nat.reduceLT, Nat.reduceBEq, Int.reduceLE, Int.reduceLT, Int.reduceToNat, Int.reduceNeg, Int.reduceAdd, Int.reduceSub, Int.reduceMul, ↓reduceIte]
      rfl
    rintro ⟨x, s⟩ ⟨hx, hs⟩
    simp only at hx hs
    by_cases hxl : x < t.length
    case neg =>
      have hxi : ¬ (x : Int) < (t.length : Int) := by omega
      obtain rfl : x = t.length := by omega
      rw [List.drop_length, textT, List.append_nil] at hs
      rw [hs]
      simp (maxSteps := 4000000) only [↓exT_call G14_27, ↓exT_callo G14_27, ↓exT_calloG G14_27, ↓exT_call G14_28, ↓exT_callo G14_28, ↓exT_calloG G14_28, ↓exT_call G14_29, ↓exT_callo G14_29, ↓exT_calloG G14_29, hxi, go_sem, Nat.reduceAdd, Nat.reduceSub, Nat.reduceMul, Nat.reduceEqDiff, Nat.reduceLeDiff, Nat.reduceLT, Nat.reduceBEq, Int.reduceLE, Int.reduceLT, Int.reduceToNat, Int.reduceNeg, Int.reduceAdd, Int.reduceSub, Int.reduceMul, ↓reduceIte]
    have hxi : (x : Int) < (t.length : Int) := by omega
    have hso := (sound_iff _).1 (hsd _ (mem_getD hxl))
    have hpt := text_end hsd hxl
    have hnd := nextD_drop (t := t) (i := x + 1)
    have hnn : 0 ≤ nextD (t.drop (x + 1)) := nextD_nonneg fun l hl => hsd l (List.mem_of_mem_drop hl)
    have hen := endN_next hxl
    have hen2 : decide ((x : Int) + 1 < ((endN t x : Nat) : Int)) = decide ((t.getD x default).d < nextD (t.drop (x + 1))) := by
      rw [decide_eq_decide, hnd]
      constructor
      · intro h
        have := hen.1 (by omega)
        rw [if_pos this.1]; exact this.2
      · intro h
        by_cases q : x + 1 < t.length
        · rw [if_pos q] at h
          have := hen.2 ⟨q, h⟩
          omega
        · rw [if_neg q] at h; omega
    have hsl : s.length ≤ (textT t).length := by rw [← hs, List.length_append]; omega
    generalize hN : nextD (t.drop (x + 1)) = N at *
    generalize hL : t.getD x default = l at *
    obtain ⟨d, w, q⟩ := l
    simp only at hso hpt hen2
    have hw : ¬ 40 < (w.length : Int) := by omega
    have s1 : d ≤ 1000000 := by omega
    have hw2 : w.length < 1099511627776 := by omega
    have hE : (s ++ lineB ⟨d, w, q⟩ ++ (if d < N then ([32, 123, 10] : Bs) else [59, 10])) ++ clN N d.toNat ++ textT (t.drop (x + 1)) = textT t := by
      rw [← hs, hpt]; simp only [List.append_assoc]
    have hbl := blanks_len d.toNat
    have hql := quote_len w
    have hz := hso.2.2.1
    have step1 : ∀ (r k : Nat), r < d.toNat → k ≤ x → (∀ j, k < j → j ≤ x → (r : Int) < (t.getD j default).d) → ¬ (r : Int) < (t.getD k default).d → (endN t k = x + 1 ↔ N ≤ r) := fun r k hr hk hkj hkd => by
      have hkx : k < x := by
        rcases Nat.lt_or_ge k x with h | h
        · exact h
        · obtain rfl : k = x := by omega
          rw [hL] at hkd; simp only at hkd; omega
      have hst := right_step hc (i := k) (by omega)
      have hk1 := hkj (k + 1) (by omega) (by omega)
      have hkr : (t.getD k default).d = r := by omega
      rw [endN_at hk hxl (fun j h1 h2 => by rw [hkr]; exact hkj j h1 h2), hkr, ← hN, nextD_drop]
      by_cases h : x + 1 < t.length
      · rw [if_pos h]; omega
      · rw [if_neg h]; omega
    have step2 : ∀ (r k : Nat), (r : Int) < (t.getD k default).d → k ≠ 0 := fun r k h => by
      rintro rfl
      rw [right_zero hc (by omega)] at h; omega
    by_cases h7 : d < N <;> by_cases hq1 : q % 2 = 1 <;> by_cases hq2 : 1 < q
    all_goals
      simp (maxSteps := 4000000) only [↓exT_call G14_27, ↓exT_callo G14_27, ↓exT_calloG G14_27, ↓exT_call G14_28, ↓exT_callo G14_28, ↓exT_calloG G14_28, ↓exT_call G14_29, ↓exT_callo G14_29, ↓exT_calloG G14_29, hxi, hl4, hL, s1, hw2, hen2, h7, hq1, hq2, hz, go_sem, Nat.reduceAdd, Nat.reduceSub, Nat.reduceMul, Nat.reduceEqDiff, Nat.reduceLeDiff, Nat.reduceLT, Nat.reduceBEq, Int.reduceLE, Int.reduceLT, Int.reduceToNat, Int.reduceNeg, Int.reduceAdd, Int.reduceSub, Int.reduceMul, ↓reduceIte]
      repeat (refine ⟨by omega, ?_⟩)
      refine awp_loopM (α := Nat × Bs) (fun y => [(0, .c (.s (.list 3 (encs lnE t) f))), (3, .c (.s (.str y.2))), (4, .c (.s (.int .i64 x))), (6, .c (.s (.int .i64 ((y.1 : Int) - 1))))]) (fun _ => []) (fun y => y.1) (d.toNat, s ++ lineB ⟨d, w, q⟩ ++ (if d < N then ([32, 123, 10] : Bs) else [59, 10])) (fun y => y.1 ≤ d.toNat ∧ y.2 ++ clN N y.1 ++ textT (t.drop (x + 1)) = textT t) ⟨Nat.le_refl _, hE⟩ (Weak.meets ?_) ?_
      · simp (maxSteps := 4000000) only [↓exT_call G14_27, ↓exT_callo G14_27, ↓exT_calloG G14_27, ↓exT_call G14_28, ↓exT_callo G14_28, ↓exT_calloG G14_28, ↓exT_call G14_29, ↓exT_callo G14_29, ↓exT_calloG G14_29, go_sem, Nat.reduceAdd, Nat.reduceSub, Nat.reduceMul, Nat.reduceEqDiff, Nat.reduceLeDiff, Nat.reduceLT, Nat.reduceBEq, Int.reduceLE, Int.reduceLT, Int.reduceToNat, Int.reduceNeg, Int.reduceAdd, Int.reduceSub, Int.reduceMul, ↓reduceIte]
        refine ⟨?_, by omega⟩
        simp [lineB, marksB, inactB, protB, hq1, hq2, h7]
      rintro ⟨r, s'⟩ ⟨hr, hs'⟩
      simp only at hr hs'
      have hsl' : s'.length ≤ (textT t).length := by rw [← hs', List.length_append, List.length_append]; omega
      cases r with
      | zero =>
        have z1 : ¬ (0 : Int) ≤ ((0 : Nat) : Int) - 1 := by omega
        rw [clN, List.append_nil] at hs'
        simp (maxSteps := 4000000) only [↓exT_call G14_27, ↓exT_callo G14_27, ↓exT_calloG G14_27, ↓exT_call G14_28, ↓exT_callo G14_28, ↓exT_calloG G14_28, ↓exT_call G14_29, ↓exT_callo G14_29, ↓exT_calloG G14_29, z1, go_sem, Nat.reduceAdd, Nat.reduceSub, Nat.reduceMul, Nat.reduceEqDiff, Nat.reduceLeDiff, Nat.reduceLT, Nat.reduceBEq, Int.reduceLE, Int.reduceLT, Int.reduceToNat, Int.reduceNeg, Int.reduceAdd, Int.reduceSub, Int.reduceMul, ↓reduceIte]
        exact ⟨by omega, ⟨x + 1, s'⟩, ⟨by simp only; omega, hs'⟩, by simp only; omega, rfl, by simp⟩
      | succ r =>
        have z1 : ((r + 1 : Nat) : Int) - 1 = r := by omega
        simp (maxSteps := 4000000) only [↓exT_call G14_27, ↓exT_callo G14_27, ↓exT_calloG G14_27, ↓exT_call G14_28, ↓exT_callo G14_28, ↓exT_calloG G14_28, ↓exT_call G14_29, ↓exT_callo G14_29, ↓exT_calloG G14_29, z1, go_sem, Nat.reduceAdd, Nat.reduceSub, Nat.reduceMul, Nat.reduceEqDiff, Nat.reduceLeDiff, Nat.reduceLT, Nat.reduceBEq, Int.reduceLE, Int.reduceLT, Int.reduceToNat, Int.reduceNeg, Int.reduceAdd, Int.reduceSub, Int.reduceMul, ↓reduceIte]
        refine awp_loopM (α := Nat) (fun k => [(0, .c (.s (.list 3 (encs lnE t) f))), (3, .c (.s (.str s'))), (4, .c (.s (.int .i64 x))), (6, .c (.s (.int .i64 r))), (7, .c (.s (.int .i64 k)))]) (fun _ => []) (fun k => k) x (fun k => k ≤ x ∧ ∀ j, k < j → j ≤ x → (r : Int) < (t.getD j default).d) ⟨Nat.le_refl _, by intros; omega⟩ (Weak.meets ?_) ?_
        · simp (maxSteps := 4000000) only [↓exT_call G14_27, ↓exT_callo G14_27, ↓exT_calloG G14_27, ↓exT_call G14_28, ↓exT_callo G14_28, ↓exT_calloG G14_28, ↓exT_call G14_29, ↓exT_callo G14_29, ↓exT_calloG G14_29, go_sem, Nat.reduceAdd, Nat.reduceSub, Nat.reduceMul, Nat.reduceEqDiff, Nat.reduceLeDiff, Nat.reduceLT, Nat.reduceBEq, Int.reduceLE, Int.reduceLT, Int.reduceToNat, Int.reduceNeg, Int.reduceAdd, Int.reduceSub, Int.reduceMul, ↓reduceIte]
        rintro k ⟨hk, hkj⟩
        have hkt : (k : Int) < (t.length : Int) := by omega
        by_cases hkd : (r : Int) < (t.getD k default).d
        · obtain ⟨k, rfl⟩ : ∃ k', k = k' + 1 := ⟨k - 1, by have := step2 r k hkd; omega⟩
          have z2 : ((k + 1 : Nat) : Int) - 1 = k := by omega
          simp (maxSteps := 4000000) only [↓exT_call G14_27, ↓exT_callo G14_27, ↓exT_calloG G14_27, ↓exT_call G14_28, ↓exT_callo G14_28, ↓exT_calloG G14_28, ↓exT_call G14_29, ↓exT_callo G14_29, ↓exT_calloG G14_29, hkt, hkd, z2, go_sem, Nat.reduceAdd, Nat.reduceSub, Nat.reduceMul, Nat.reduceEqDiff, Nat.reduceLeDiff, Nat.reduceLT, Nat.reduceBEq, Int.reduceLE, Int.reduceLT, Int.reduceToNat, Int.reduceNeg, Int.reduceAdd, Int.reduceSub, Int.reduceMul, ↓reduceIte]
          refine ⟨by omega, k, ⟨by omega, fun j h1 h2 => ?_⟩, by omega, rfl⟩
          rcases Nat.lt_or_ge (k + 1) j with h | h
          · exact hkj j h h2
          · obtain rfl : j = k + 1 := by omega
            exact hkd
        have hst := step1 r k (by omega) hk hkj hkd
        have hrb : (r : Int) ≤ 1000000 := by omega
        have hrl := blanks_len r
        by_cases hNr : N ≤ (r : Int)
        · have he : (((endN t k : Nat) : Int) = (x : Int) + 1) = True := by rw [eq_iff_iff]; have := hst.2 hNr; simp only [iff_true]; omega
          have hs2 : (s' ++ blanksB r ++ [125, 10]) ++ clN N r ++ textT (t.drop (x + 1)) = textT t := by
            rw [← hs', clN, if_pos hNr]; simp only [List.append_assoc]
          simp (maxSteps := 4000000) only [↓exT_call G14_27, ↓exT_callo G14_27, ↓exT_calloG G14_27, ↓exT_call G14_28, ↓exT_callo G14_28, ↓exT_calloG G14_28, ↓exT_call G14_29, ↓exT_callo G14_29, ↓exT_calloG G14_29, hkt, hkd, hl4, he, hrb, go_sem, Nat.reduceAdd, Nat.reduceSub, Nat.reduceMul, Nat.reduceEqDiff, Nat.reduceLeDiff, Nat.reduceLT, Nat.reduceBEq, Int.reduceLE, Int.reduceLT, Int.reduceToNat, Int.reduceNeg, Int.reduceAdd, Int.reduceSub, Int.reduceMul, ↓reduceIte]
          exact ⟨by omega, by omega, by omega, by omega, ⟨r, s' ++ blanksB r ++ [125, 10]⟩, ⟨by simp only; omega, hs2⟩, by simp only; omega, rfl, rfl⟩
        · have he : (((endN t k : Nat) : Int) = (x : Int) + 1) = False := by rw [eq_iff_iff]; simp only [iff_false]; intro h; exact hNr (hst.1 (by omega))
          have hs2 : s' ++ clN N r ++ textT (t.drop (x + 1)) = textT t := by
            rw [← hs', clN, if_neg hNr]; rfl
          simp (maxSteps := 4000000) only [↓exT_call G14_27, ↓exT_callo G14_27, ↓exT_calloG G14_27, ↓exT_call G14_28, ↓exT_callo G14_28, ↓exT_calloG G14_28, ↓exT_call G14_29, ↓exT_callo G14_29, ↓exT_calloG G14_29, hkt, hkd, hl4, he, hrb, go_sem, Nat.reduceAdd, Nat.reduceSub, Nat.reduceMul, Nat.reduceEqDiff, Nat.reduceLeDiff, Nat.reduceLT, Nat.reduceBEq, Int.reduceLE, Int.reduceLT, Int.reduceToNat, Int.reduceNeg, Int.reduceAdd, Int.reduceSub, Int.reduceMul, ↓reduceIte]
          exact ⟨by omega, by omega, ⟨r, s'⟩, ⟨by simp only; omega, hs2⟩, by simp only; omega, rfl, rfl⟩

end Go.Proofs.Ytjjjgagmknlpmaa
