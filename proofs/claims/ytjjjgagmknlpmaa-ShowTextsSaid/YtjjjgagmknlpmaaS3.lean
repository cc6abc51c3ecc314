/- The functions of package tree: parts. -/
import Derived.Test.YtjjjgagmknlpmaaS2
import Derived.Test.YtjjjgagmknlpmaaTR2
set_option linter.all false
namespace Go.Proofs.Ytjjjgagmknlpmaa
open Go Go.Ab Go.Proofs Go.Fs
def thereB (t : List Ln) (i : Int) : Bool := decide (0 ≤ i) && decide (i < t.length) && rightT t
def endI (t : List Ln) (i : Int) : Int := if thereB t i = true then (endN t i.toNat : Nat) else 0
def subI (t : List Ln) (i : Int) : List Ln := if thereB t i = true then subT t i.toNat else []
def kidsI (t : List Ln) : List Int := if rightT t = true then kidsT t else []
def leavesI (t : List Ln) : List Int := if rightT t = true then leavesT t else []
theorem there_nat {t : List Ln} {i : Int} (h : thereB t i = true) : ∃ k : Nat, i = k ∧ k < t.length ∧ rightT t = true ∧ t.length ≤ 200 := by
  simp only [thereB, Bool.and_eq_true, decide_eq_true_eq] at h
  exact ⟨i.toNat, by omega, by omega, h.2, (right_len h.2).1⟩
def thereG_enc : (List Ln) × (Bool) × (Int) → List V := fun ⟨t, f, i⟩ => [.c (.s (.list 3 (encs lnE t) f)), .c (.s (.int .i64 i))]
theorem thereG_inj : ∀ x y, thereG_enc x = thereG_enc y → x = y := by
  rintro ⟨t, f, i⟩ ⟨t2, f2, i2⟩ h
  simp only [thereG_enc, List.cons.injEq, V.c.injEq, V.agg.injEq, C.s.injEq, S.list.injEq, S.str.injEq, S.int.injEq, S.bool.injEq, S.fn.injEq, S.cref.injEq, strE_inj, true_and, and_true, lnE_inj] at h
  simp_all
noncomputable def thereG : List V → Option (V) := specE thereG_enc (fun ⟨t, f, i⟩ => True) (fun ⟨t, f, i⟩ => .c (.s (.bool (thereB t i))))
theorem thereG_eq {t : List Ln} {f : Bool} {i : Int} [Decidable (True)] : thereG [.c (.s (.list 3 (encs lnE t) f)), .c (.s (.int .i64 i))] = if True then some (.c (.s (.bool (thereB t i)))) else none := specE_eq thereG_inj (t, f, i)
theorem thereG_call {t : List Ln} {f : Bool} {i : Int} {gt : Bool} {K : V → Prop} : callE thereG [.c (.s (.list 3 (encs lnE t) f)), .c (.s (.int .i64 i))] gt K = bindV (ifV gt (.c (.s (.bool (thereB t i))))) K := callE_all (by rw [thereG_eq]; rfl)
theorem thereG_callo {t : List Ln} {f : Bool} {i : Int} {m : Nat → Option Ab.Obj} {locs : List Nat} {K : V → (Nat → Option Ab.Obj) → Prop} : callO thereG (some [.c (.s (.list 3 (encs lnE t) f)), .c (.s (.int .i64 i))]) m locs K = K (.c (.s (.bool (thereB t i)))) (sealW m locs (.c (.s (.bool (thereB t i))))) := callO_all (by rw [thereG_eq]; rfl)
attribute [go_sem] thereG_call thereG_callo

def sc_tree_there : SC := .seq (.reg [⟨some 4, .mv, [.k (.c (.s (.bool false)))], none⟩]) (.seq (.reg [⟨some 5, .mv, [.t 1], none⟩,
⟨some 6, .bin .geq, [.t 5, .k (.c (.s (.int .i64 0)))], none⟩,
⟨some 7, .mv, [.t 6], none⟩,
⟨some 8, .mv, [.t 1], some (7, true)⟩,
⟨some 9, .mv, [.t 0], some (7, true)⟩,
⟨some 10, .len false, [.t 9], some (7, true)⟩,
⟨some 11, .bin .lss, [.t 8, .t 10], some (7, true)⟩,
⟨some 12, .pick, [.t 7, .t 11, .k (.c (.s (.bool false)))], none⟩,
⟨some 13, .mv, [.t 12], none⟩,
⟨some 14, .mv, [.t 0], some (13, true)⟩,
⟨some 15, .call 19, [.t 14], some (13, true)⟩,
⟨some 16, .pick, [.t 13, .t 15, .k (.c (.s (.bool false)))], none⟩,
⟨some 4, .mv, [.t 16], none⟩]) (.ret))
noncomputable def G_tree_there : FuncId → Ab.Spec := addS (noS) 19 (plain rightG)
theorem G_tree_there_ok : ∀ f, Contract Try.prog f (G_tree_there f) := (addS_ok (noS_ok _) contract_tree_Right)
theorem G37_19 : G_tree_there 19 = plain rightG := by simp [G_tree_there, addS]
set_option maxHeartbeats 16000000 in
set_option maxRecDepth 1000000 in
set_option linter.unusedSimpArgs false in
set_option linter.unusedVariables false in
theorem contract_tree_there : Contract Try.prog 37 (plain thereG) := by
  have hb : ∃ c, Try.f37.body = some c ∧ codeOk 17 c = true ∧ cCode Try.prog c = sc_tree_there := ⟨_, rfl, by kernel_rfl, by kernel_rfl⟩
  obtain ⟨c, hb1, hb2, hb3⟩ := hb
  refine contract_of (n := 2) G_tree_there_ok hB hD Try.func37 hb1 (by kernel_rfl) hb2 hb3 (rs := [.tmp 4]) (by kernel_rfl) (by decide) ?_ ?_
  · intro args x h
    obtain ⟨y, hy, -⟩ := Option.map_eq_some_iff.1 h
    obtain ⟨⟨t, f, i⟩, rfl, -⟩ := specE_some hy
    rfl
  · intro args r hr
    obtain ⟨y, hy, rfl⟩ := Option.map_eq_some_iff.1 hr
    obtain ⟨⟨t, f, i⟩, rfl, hc, rfl⟩ := specE_some hy
    clear hr hy
    have hc : True := hc
    change awp _ _ (postQ _ (.v (.c (.s (.bool (thereB t i)))))) _
    unfold thereG_enc sc_tree_there
    unfold thereB
    by_cases h1 : 0 ≤ i
    · by_cases h2 : i < (t.length : Int)
      · simp (maxSteps := 4000000) only [↓exT_call G37_19, ↓exT_callo G37_19, ↓exT_calloG G37_19, h1, h2, go_sem, Nat.reduceAdd, Nat.reduceSub, Nat.reduceMul, Nat.reduceEqDiff, Nat.reduceLeDiff, Nat.reduceLT, Nat.reduceBEq, Int.reduceLE, Int.reduceLT, Int.reduceToNat, Int.reduceNeg, Int.reduceAdd, Int.reduceSub, Int.reduceMul, ↓reduceIte]
      · simp (maxSteps := 4000000) only [↓exT_call G37_19, ↓exT_callo G37_19, ↓exT_calloG G37_19, h1, h2, go_sem, Nat.reduceAdd, Nat.reduceSub, Nat.reduceMul, Nat.reduceEqDiff, Nat.reduceLeDiff, Nat.reduceLT, Nat.reduceBEq, Int.reduceLE, Int.reduceLT, Int.reduceToNat, Int.reduceNeg, Int.reduceAdd, Int.reduceSub, Int.reduceMul, ↓reduceIte]
    · simp (maxSteps := 4000000) only [↓exT_call G37_19, ↓exT_callo G37_19, ↓exT_calloG G37_19, h1, go_sem, Nat.reduceAdd, Nat.reduceSub, Nat.reduceMul, Nat.reduceEqDiff, Nat.reduceLeDiff, Nat.reduceLT, Nat.reduceBEq, Int.reduceLE, Int.reduceLT, Int.reduceToNat, Int.reduceNeg, Int.reduceAdd, Int.reduceSub, Int.reduceMul, ↓reduceIte]

def endG_enc : (List Ln) × (Bool) × (Int) → List V := fun ⟨t, f, i⟩ => [.c (.s (.list 3 (encs lnE t) f)), .c (.s (.int .i64 i))]
theorem endG_inj : ∀ x y, endG_enc x = endG_enc y → x = y := by
  rintro ⟨t, f, i⟩ ⟨t2, f2, i2⟩ h
  simp only [endG_enc, List.cons.injEq, V.c.injEq, V.agg.injEq, C.s.injEq, S.list.injEq, S.str.injEq, S.int.injEq, S.bool.injEq, S.fn.injEq, S.cref.injEq, strE_inj, true_and, and_true, lnE_inj] at h
  simp_all
noncomputable def endG : List V → Option (V) := specE endG_enc (fun ⟨t, f, i⟩ => True) (fun ⟨t, f, i⟩ => .c (.s (.int .i64 (endI t i))))
theorem endG_eq {t : List Ln} {f : Bool} {i : Int} [Decidable (True)] : endG [.c (.s (.list 3 (encs lnE t) f)), .c (.s (.int .i64 i))] = if True then some (.c (.s (.int .i64 (endI t i)))) else none := specE_eq endG_inj (t, f, i)
theorem endG_call {t : List Ln} {f : Bool} {i : Int} {gt : Bool} {K : V → Prop} : callE endG [.c (.s (.list 3 (encs lnE t) f)), .c (.s (.int .i64 i))] gt K = bindV (ifV gt (.c (.s (.int .i64 (endI t i))))) K := callE_all (by rw [endG_eq]; rfl)
theorem endG_callo {t : List Ln} {f : Bool} {i : Int} {m : Nat → Option Ab.Obj} {locs : List Nat} {K : V → (Nat → Option Ab.Obj) → Prop} : callO endG (some [.c (.s (.list 3 (encs lnE t) f)), .c (.s (.int .i64 i))]) m locs K = K (.c (.s (.int .i64 (endI t i)))) (sealW m locs (.c (.s (.int .i64 (endI t i))))) := callO_all (by rw [endG_eq]; rfl)
attribute [go_sem] endG_call endG_callo

def sc_tree_End : SC := .seq (.reg [⟨some 4, .mv, [.k (.c (.s (.int .i64 0)))], none⟩]) (.seq (.seq (.reg [⟨some 6, .mv, [.t 0], none⟩,
⟨some 7, .mv, [.t 1], none⟩,
⟨some 8, .call 37, [.t 6, .t 7], none⟩,
⟨some 9, .not, [.t 8], none⟩]) (.cond (.t 9) (.seq (.reg [⟨some 4, .mv, [.k (.c (.s (.int .i64 0)))], none⟩]) (.ret)) (.skip))) (.seq (.reg [⟨some 10, .mv, [.t 1], none⟩,
⟨some 11, .bin .add, [.t 10, .k (.c (.s (.int .i64 1)))], none⟩,
⟨some 5, .mv, [.t 11], none⟩]) (.seq (.block 0 (.loop (.seq (.seq (.regD [⟨some 12, .mv, [.t 5], none⟩,
⟨some 13, .mv, [.t 0], none⟩,
⟨some 14, .len false, [.t 13], none⟩,
⟨some 15, .bin .lss, [.t 12, .t 14], none⟩,
⟨some 16, .mv, [.t 15], none⟩,
⟨some 17, .mv, [.t 0], some (16, true)⟩,
⟨some 18, .mv, [.t 5], some (16, true)⟩,
⟨some 19, .iadr 3, [.t 17, .t 18], some (16, true)⟩,
⟨some 20, .fadr 0, [.t 19], some (16, true)⟩,
⟨some 21, .load 1 false, [.t 20], some (16, true)⟩,
⟨some 22, .mv, [.t 0], some (16, true)⟩,
⟨some 23, .mv, [.t 1], some (16, true)⟩,
⟨some 24, .iadr 3, [.t 22, .t 23], some (16, true)⟩,
⟨some 25, .fadr 0, [.t 24], some (16, true)⟩,
⟨some 26, .load 1 false, [.t 25], some (16, true)⟩,
⟨some 27, .bin .gtr, [.t 21, .t 26], some (16, true)⟩,
⟨some 28, .pick, [.t 16, .t 27, .k (.c (.s (.bool false)))], none⟩] []) (.cond (.t 28) (.skip) (.exit 0))) (.block 1 (.reg [⟨some 29, .mv, [.t 5], none⟩,
⟨some 30, .bin .add, [.t 29, .k (.c (.s (.int .i64 1)))], none⟩,
⟨some 5, .mv, [.t 30], none⟩]))))) (.seq (.reg [⟨some 31, .mv, [.t 5], none⟩,
⟨some 4, .mv, [.t 31], none⟩]) (.ret)))))
noncomputable def G_tree_End : FuncId → Ab.Spec := addS (noS) 37 (plain thereG)
theorem G_tree_End_ok : ∀ f, Contract Try.prog f (G_tree_End f) := (addS_ok (noS_ok _) contract_tree_there)
theorem G30_37 : G_tree_End 37 = plain thereG := by simp [G_tree_End, addS]
set_option maxHeartbeats 16000000 in
set_option maxRecDepth 1000000 in
set_option linter.unusedSimpArgs false in
set_option linter.unusedVariables false in
theorem contract_tree_End : Contract Try.prog 30 (plain endG) := by
  have hb : ∃ c, Try.f30.body = some c ∧ codeOk 32 c = true ∧ cCode Try.prog c = sc_tree_End := ⟨_, rfl, by kernel_rfl, by kernel_rfl⟩
  obtain ⟨c, hb1, hb2, hb3⟩ := hb
  refine contract_of (n := 2) G_tree_End_ok hB hD Try.func30 hb1 (by kernel_rfl) hb2 hb3 (rs := [.tmp 4]) (by kernel_rfl) (by decide) ?_ ?_
  · intro args x h
    obtain ⟨y, hy, -⟩ := Option.map_eq_some_iff.1 h
    obtain ⟨⟨t, f, i⟩, rfl, -⟩ := specE_some hy
    rfl
  · intro args r hr
    obtain ⟨y, hy, rfl⟩ := Option.map_eq_some_iff.1 hr
    obtain ⟨⟨t, f, i⟩, rfl, hc, rfl⟩ := specE_some hy
    clear hr hy
    have hc : True := hc
    change awp _ _ (postQ _ (.v (.c (.s (.int .i64 (endI t i)))))) _
    unfold endG_enc sc_tree_End
    cases h : thereB t i with
    | false =>
      have he : endI t i = 0 := by unfold endI; rw [h]; rfl
      rw [he]
      simp (maxSteps := 4000000) only [↓exT_call G30_37, ↓exT_callo G30_37, ↓exT_calloG G30_37, h, go_sem, Nat.reduceAdd, Nat.reduceSub, Nat.reduceMul, Nat.reduceEqDiff, Nat.reduceLeDiff, Nat.reduceLT, Nat.reduceBEq, Int.reduceLE, Int.reduceLT, Int.reduceToNat, Int.reduceNeg, Int.reduceAdd, Int.reduceSub, Int.reduceMul, ↓reduceIte]
    | true =>
    have he : endI t i = (endN t i.toNat : Nat) := by unfold endI; rw [h]; rfl
    obtain ⟨k, rfl, hk, hr, hl⟩ := there_nat h
    rw [he, Int.toNat_natCast]
    simp (maxSteps := 4000000) only [↓exT_call G30_37, ↓exT_callo G30_37, ↓exT_calloG G30_37, h, go_sem, Nat.reduceAdd, Nat.reduceSub, Nat.reduceMul, Nat.reduceEqDiff, Nat.reduceLeDiff, Nat.reduceLT, Nat.reduceBEq, Int.reduceLE, Int.reduceLT, Int.reduceToNat, Int.reduceNeg, Int.reduceAdd, Int.reduceSub, Int.reduceMul, ↓reduceIte]
    refine ⟨by omega, ?_⟩
    refine awp_loopM (α := Nat) (fun j => [(0, .c (.s (.list 3 (encs lnE t) f))), (1, .c (.s (.int .i64 k))), (5, .c (.s (.int .i64 j)))]) (fun _ => []) (fun j => t.length - j) (k + 1) (fun j => k + 1 ≤ j ∧ j ≤ t.length ∧ ∀ l ∈ (t.take j).drop (k + 1), (t.getD k default).d < l.d) ⟨Nat.le_refl _, hk, by simp⟩ (Weak.meets ?_) ?_
    · simp (maxSteps := 4000000) only [↓exT_call G30_37, ↓exT_callo G30_37, ↓exT_calloG G30_37, go_sem, Nat.reduceAdd, Nat.reduceSub, Nat.reduceMul, Nat.reduceEqDiff, Nat.reduceLeDiff, Nat.reduceLT, Nat.reduceBEq, Int.reduceLE, Int.reduceLT, Int.reduceToNat, Int.reduceNeg, Int.reduceAdd, Int.reduceSub, Int.reduceMul, ↓reduceIte]
      simp
    rintro j ⟨hj1, hj2, hw⟩
    have hki : (k : Int) < (t.length : Int) := by omega
    by_cases hjl : j < t.length
    case neg =>
      have hji : ¬ (j : Int) < (t.length : Int) := by omega
      obtain rfl : j = t.length := by omega
      rw [endN_of hj1 (Nat.le_refl _) hw (.inl rfl)]
      simp (maxSteps := 4000000) only [↓exT_call G30_37, ↓exT_callo G30_37, ↓exT_calloG G30_37, hji, go_sem, Nat.reduceAdd, Nat.reduceSub, Nat.reduceMul, Nat.reduceEqDiff, Nat.reduceLeDiff, Nat.reduceLT, Nat.reduceBEq, Int.reduceLE, Int.reduceLT, Int.reduceToNat, Int.reduceNeg, Int.reduceAdd, Int.reduceSub, Int.reduceMul, ↓reduceIte]
    have hji : (j : Int) < (t.length : Int) := by omega
    by_cases hd : (t.getD k default).d < (t.getD j default).d
    · have hn : ∀ l ∈ (t.take (j + 1)).drop (k + 1), (t.getD k default).d < l.d := by
        intro l hl
        rw [take_getD hjl, List.drop_append_of_le_length (by simp; omega)] at hl
        rcases List.mem_append.1 hl with h | h
        · exact hw l h
        · simp only [List.mem_singleton] at h; rw [h]; exact hd
      simp (maxSteps := 4000000) only [↓exT_call G30_37, ↓exT_callo G30_37, ↓exT_calloG G30_37, hji, hki, hd, go_sem, Nat.reduceAdd, Nat.reduceSub, Nat.reduceMul, Nat.reduceEqDiff, Nat.reduceLeDiff, Nat.reduceLT, Nat.reduceBEq, Int.reduceLE, Int.reduceLT, Int.reduceToNat, Int.reduceNeg, Int.reduceAdd, Int.reduceSub, Int.reduceMul, ↓reduceIte]
      exact ⟨by omega, j + 1, ⟨by omega, by omega, hn⟩, by omega, by simp⟩
    · rw [endN_of hj1 (by omega) hw (.inr hd)]
      simp (maxSteps := 4000000) only [↓exT_call G30_37, ↓exT_callo G30_37, ↓exT_calloG G30_37, hji, hki, hd, go_sem, Nat.reduceAdd, Nat.reduceSub, Nat.reduceMul, Nat.reduceEqDiff, Nat.reduceLeDiff, Nat.reduceLT, Nat.reduceBEq, Int.reduceLE, Int.reduceLT, Int.reduceToNat, Int.reduceNeg, Int.reduceAdd, Int.reduceSub, Int.reduceMul, ↓reduceIte]

def cloneLG_enc : (List Ln) × (Bool) → List V := fun ⟨ws, f⟩ => [.c (.s (.list 3 (encs lnE ws) f))]
theorem cloneLG_inj : ∀ x y, cloneLG_enc x = cloneLG_enc y → x = y := by
  rintro ⟨ws, f⟩ ⟨ws2, f2⟩ h
  simp only [cloneLG_enc, List.cons.injEq, V.c.injEq, V.agg.injEq, C.s.injEq, S.list.injEq, S.str.injEq, S.int.injEq, S.bool.injEq, S.fn.injEq, S.cref.injEq, strE_inj, true_and, and_true, lnE_inj] at h
  simp_all
noncomputable def cloneLG : List V → Option (Nat × List (List S)) := specE cloneLG_enc (fun ⟨ws, f⟩ => ws.length < 4000000) (fun ⟨ws, f⟩ => (3, encs lnE ws))
theorem cloneLG_eq {ws : List Ln} {f : Bool} [Decidable (ws.length < 4000000)] : cloneLG [.c (.s (.list 3 (encs lnE ws) f))] = if ws.length < 4000000 then some ((3, encs lnE ws)) else none := specE_eq cloneLG_inj (ws, f)
theorem cloneLG_callf {ws : List Ln} {f : Bool} {m : Nat → Option Ab.Obj} {locs : List Nat} {d : Nat} {K : V → (Nat → Option Ab.Obj) → Prop} : callF cloneLG (some [.c (.s (.list 3 (encs lnE ws) f))]) m locs d K = ((ws.length < 4000000) ∧ m d = none ∧ K (.c (.own d ( encs lnE ws).length)) (upd (setAll m (sealL m locs)) d (some (.row 3 ( encs lnE ws))))) := by
  have := Classical.propDecidable (ws.length < 4000000)
  exact callF_of cloneLG_eq
attribute [go_sem] cloneLG_callf

def sc_slices_Clone_apiLine : SC := .seq (.reg [⟨some 2, .mv, [.k (.c (.s (.list 0 [] true)))], none⟩]) (.seq (.seq (.reg [⟨some 3, .mv, [.t 0], none⟩,
⟨some 4, .isNil false, [.t 3], none⟩]) (.cond (.t 4) (.seq (.reg [⟨some 2, .mv, [.k (.c (.s (.list 0 [] true)))], none⟩]) (.ret)) (.skip))) (.seq (.reg [⟨some 5, .bslice 3 0 [.int .i64 0, .str [], .int .i64 0] [], [], none⟩,
⟨some 6, .mv, [.t 0], none⟩,
⟨some 7, .append false 3 32, [.t 5, .t 6], none⟩,
⟨some 2, .mv, [.t 7], none⟩]) (.ret)))
noncomputable def G_slices_Clone_apiLine : FuncId → Ab.Spec := noS
theorem G_slices_Clone_apiLine_ok : ∀ f, Contract Try.prog f (G_slices_Clone_apiLine f) := (noS_ok _)
set_option maxHeartbeats 16000000 in
set_option maxRecDepth 1000000 in
set_option linter.unusedSimpArgs false in
set_option linter.unusedVariables false in
theorem contract_slices_Clone_apiLine : Contract Try.prog 38 (fresh cloneLG) := by
  have hb : ∃ c, Try.f38.body = some c ∧ codeOk 8 c = true ∧ cCode Try.prog c = sc_slices_Clone_apiLine := ⟨_, rfl, by kernel_rfl, by kernel_rfl⟩
  obtain ⟨c, hb1, hb2, hb3⟩ := hb
  refine contract_of (n := 1) G_slices_Clone_apiLine_ok hB hD Try.func38 hb1 (by kernel_rfl) hb2 hb3 (rs := [.tmp 2]) (by kernel_rfl) (by decide) ?_ ?_
  · intro args x h
    obtain ⟨y, hy, -⟩ := Option.map_eq_some_iff.1 h
    obtain ⟨⟨ws, f⟩, rfl, -⟩ := specE_some hy
    rfl
  · intro args r hr
    obtain ⟨y, hy, rfl⟩ := Option.map_eq_some_iff.1 hr
    obtain ⟨⟨ws, f⟩, rfl, hc, rfl⟩ := specE_some hy
    clear hr hy
    have hc : ws.length < 4000000 := hc
    change awp _ _ (postQ _ (.fresh ((3, encs lnE ws)).1 ((3, encs lnE ws)).2)) _
    unfold cloneLG_enc sc_slices_Clone_apiLine
    by_cases h : ws = []
    · subst h
      simp +contextual (maxSteps := 4000000) only [go_sem, Nat.reduceAdd, Nat.reduceSub, Nat.reduceMul, Nat.reduceEqDiff, Nat.reduceLeDiff, Nat.reduceLT, Nat.reduceBEq, Int.reduceLE, Int.reduceLT, Int.reduceToNat, Int.reduceNeg, Int.reduceAdd, Int.reduceSub, Int.reduceMul, ↓reduceIte]
    · simp +contextual (maxSteps := 4000000) only [h, go_sem, Nat.reduceAdd, Nat.reduceSub, Nat.reduceMul, Nat.reduceEqDiff, Nat.reduceLeDiff, Nat.reduceLT, Nat.reduceBEq, Int.reduceLE, Int.reduceLT, Int.reduceToNat, Int.reduceNeg, Int.reduceAdd, Int.reduceSub, Int.reduceMul, ↓reduceIte]
      omega

theorem set_lnE {l : List Ln} {i : Nat} {d : Int} {w : Bs} {m : Int} : (encs lnE l).set i [.int .i64 d, .str w, .int .i64 m] = encs lnE (l.set i ⟨d, w, m⟩) := by
  exact (List.map_set (f := lnE) (l := l) (i := i) (a := ⟨d, w, m⟩)).symm
theorem nums_snoc {l : List Int} {n : Int} : encs numE l ++ [[.int .i64 n]] = encs numE (l ++ [n]) := by rw [encs_append]; rfl
def subG_enc : (List Ln) × (Bool) × (Int) → List V := fun ⟨t, f, i⟩ => [.c (.s (.list 3 (encs lnE t) f)), .c (.s (.int .i64 i))]
theorem subG_inj : ∀ x y, subG_enc x = subG_enc y → x = y := by
  rintro ⟨t, f, i⟩ ⟨t2, f2, i2⟩ h
  simp only [subG_enc, List.cons.injEq, V.c.injEq, V.agg.injEq, C.s.injEq, S.list.injEq, S.str.injEq, S.int.injEq, S.bool.injEq, S.fn.injEq, S.cref.injEq, strE_inj, true_and, and_true, lnE_inj] at h
  simp_all
noncomputable def subG : List V → Option (Nat × List (List S)) := specE subG_enc (fun ⟨t, f, i⟩ => True) (fun ⟨t, f, i⟩ => (3, encs lnE (subI t i)))
theorem subG_eq {t : List Ln} {f : Bool} {i : Int} [Decidable (True)] : subG [.c (.s (.list 3 (encs lnE t) f)), .c (.s (.int .i64 i))] = if True then some ((3, encs lnE (subI t i))) else none := specE_eq subG_inj (t, f, i)
theorem subG_callf {t : List Ln} {f : Bool} {i : Int} {m : Nat → Option Ab.Obj} {locs : List Nat} {d : Nat} {K : V → (Nat → Option Ab.Obj) → Prop} : callF subG (some [.c (.s (.list 3 (encs lnE t) f)), .c (.s (.int .i64 i))]) m locs d K = ((True) ∧ m d = none ∧ K (.c (.own d ( encs lnE (subI t i)).length)) (upd (setAll m (sealL m locs)) d (some (.row 3 ( encs lnE (subI t i)))))) := by
  have := Classical.propDecidable (True)
  exact callF_of subG_eq
attribute [go_sem] subG_callf

def sc_tree_Sub : SC := .seq (.reg [⟨some 4, .mv, [.k (.c (.s (.list 0 [] true)))], none⟩]) (.seq (.seq (.reg [⟨some 7, .mv, [.t 0], none⟩,
⟨some 8, .mv, [.t 1], none⟩,
⟨some 9, .call 37, [.t 7, .t 8], none⟩,
⟨some 10, .not, [.t 9], none⟩]) (.cond (.t 10) (.seq (.reg [⟨some 4, .mv, [.k (.c (.s (.list 0 [] true)))], none⟩]) (.ret)) (.skip))) (.seq (.reg [⟨some 11, .mv, [.t 0], none⟩,
⟨some 12, .mv, [.t 1], none⟩,
⟨some 13, .mv, [.t 0], none⟩,
⟨some 14, .mv, [.t 1], none⟩,
⟨some 15, .call 30, [.t 13, .t 14], none⟩,
⟨some 16, .slcL 3 true true false, [.t 11, .t 12, .t 15], none⟩,
⟨some 17, .call 38, [.t 16], none⟩,
⟨some 5, .mv, [.t 17], none⟩]) (.seq (.seq (.reg [⟨some 18, .mv, [.t 5], none⟩,
⟨some 19, .len false, [.t 18], none⟩,
⟨some 20, .mv, [.k (.c (.s (.int .i64 0)))], none⟩]) (.block 0 (.loop (.seq (.reg [⟨some 21, .bin .lss, [.t 20, .t 19], none⟩]) (.seq (.cond (.t 21) (.skip) (.exit 0)) (.seq (.block 1 (.seq (.reg [⟨some 22, .mv, [.t 20], none⟩,
⟨some 6, .mv, [.t 22], none⟩]) (.regD [⟨some 23, .mv, [.t 5], none⟩,
⟨some 24, .mv, [.t 6], none⟩,
⟨some 25, .iadr 3, [.t 23, .t 24], none⟩,
⟨some 26, .fadr 0, [.t 25], none⟩,
⟨some 27, .load 1 false, [.t 26], none⟩,
⟨some 28, .mv, [.t 0], none⟩,
⟨some 29, .mv, [.t 1], none⟩,
⟨some 30, .iadr 3, [.t 28, .t 29], none⟩,
⟨some 31, .fadr 0, [.t 30], none⟩,
⟨some 32, .load 1 false, [.t 31], none⟩,
⟨some 33, .bin .sub, [.t 27, .t 32], none⟩,
⟨some 34, .iadr 3, [.t 23, .t 24], none⟩,
⟨some 35, .fadr 0, [.t 34], none⟩,
⟨none, .store 1 false, [.t 35, .t 33], none⟩] []))) (.reg [⟨some 36, .bin .add, [.t 20, .k (.c (.s (.int .i64 1)))], none⟩,
⟨some 20, .mv, [.t 36], none⟩]))))))) (.seq (.reg [⟨some 37, .mv, [.t 5], none⟩,
⟨some 4, .mv, [.t 37], none⟩]) (.ret)))))
noncomputable def G_tree_Sub : FuncId → Ab.Spec := addS (addS (addS (noS) 37 (plain thereG)) 30 (plain endG)) 38 (fresh cloneLG)
theorem G_tree_Sub_ok : ∀ f, Contract Try.prog f (G_tree_Sub f) := (addS_ok (addS_ok (addS_ok (noS_ok _) contract_tree_there) contract_tree_End) contract_slices_Clone_apiLine)
theorem G26_37 : G_tree_Sub 37 = plain thereG := by simp [G_tree_Sub, addS]
theorem G26_30 : G_tree_Sub 30 = plain endG := by simp [G_tree_Sub, addS]
theorem G26_38 : G_tree_Sub 38 = fresh cloneLG := by simp [G_tree_Sub, addS]
set_option maxHeartbeats 16000000 in
set_option maxRecDepth 1000000 in
set_option linter.unusedSimpArgs false in
set_option linter.unusedVariables false in
theorem contract_tree_Sub : Contract Try.prog 26 (fresh subG) := by
  have hb : ∃ c, Try.f26.body = some c ∧ codeOk 38 c = true ∧ cCode Try.prog c = sc_tree_Sub := ⟨_, rfl, by kernel_rfl, by kernel_rfl⟩
  obtain ⟨c, hb1, hb2, hb3⟩ := hb
  refine contract_of (n := 2) G_tree_Sub_ok hB hD Try.func26 hb1 (by kernel_rfl) hb2 hb3 (rs := [.tmp 4]) (by kernel_rfl) (by decide) ?_ ?_
  · intro args x h
    obtain ⟨y, hy, -⟩ := Option.map_eq_some_iff.1 h
    obtain ⟨⟨t, f, i⟩, rfl, -⟩ := specE_some hy
    rfl
  · intro args r hr
    obtain ⟨y, hy, rfl⟩ := Option.map_eq_some_iff.1 hr
    obtain ⟨⟨t, f, i⟩, rfl, hc, rfl⟩ := specE_some hy
    clear hr hy
    have hc : True := hc
    change awp _ _ (postQ _ (.fresh ((3, encs lnE (subI t i))).1 ((3, encs lnE (subI t i))).2)) _
    unfold subG_enc sc_tree_Sub
    cases h : thereB t i with
    | false =>
      have he : subI t i = [] := by unfold subI; rw [h]; rfl
      rw [he]
      simp (maxSteps := 4000000) only [↓exT_call G26_37, ↓exT_callo G26_37, ↓exT_calloG G26_37, ↓exT_call G26_30, ↓exT_callo G26_30, ↓exT_calloG G26_30, ↓exT_callf G26_38, h, go_sem, Nat.reduceAdd, Nat.reduceSub, Nat.reduceMul, Nat.reduceEqDiff, Nat.reduceLeDiff, Nat.reduceLT, Nat.reduceBEq, Int.reduceLE, Int.reduceLT, Int.reduceToNat, Int.reduceNeg, Int.reduceAdd, Int.reduceSub, Int.reduceMul, ↓reduceIte]
    | true =>
    have he : subI t i = subT t i.toNat := by unfold subI; rw [h]; rfl
    obtain ⟨k, rfl, hk, hr, hl⟩ := there_nat h
    have he2 : endI t k = (endN t k : Nat) := by unfold endI; rw [h]; rfl
    obtain ⟨e1, e2, -, -⟩ := endN_spec hk
    rw [he, Int.toNat_natCast, subT_eq]
    generalize hs : (t.take (endN t k)).drop k = s at *
    have hsl : s.length = endN t k - k := by rw [← hs]; simp; omega
    have b1 : (0 : Int) ≤ (k : Int) ∧ (k : Int) ≤ (endN t k : Int) ∧ ((endN t k : Nat) : Int) ≤ (t.length : Int) := by omega
    have b2 : (t.take (endN t k)).drop k = s := hs
    simp (maxSteps := 4000000) only [↓exT_call G26_37, ↓exT_callo G26_37, ↓exT_calloG G26_37, ↓exT_call G26_30, ↓exT_callo G26_30, ↓exT_calloG G26_30, ↓exT_callf G26_38, h, he2, b1.1, b1.2.1, b1.2.2, b2, go_sem, Nat.reduceAdd, Nat.reduceSub, Nat.reduceMul, Nat.reduceEqDiff, Nat.reduceLeDiff, Nat.reduceLT, Nat.reduceBEq, Int.reduceLE, Int.reduceLT, Int.reduceToNat, Int.reduceNeg, Int.reduceAdd, Int.reduceSub, Int.reduceMul, ↓reduceIte]
    refine ⟨by omega, ?_⟩
    refine awp_loopM (α := Nat) (fun x => [(0, .c (.s (.list 3 (encs lnE t) f))), (1, .c (.s (.int .i64 k))), (5, .c (.own 17 s.length)), (19, .c (.s (.int .i64 s.length))), (20, .c (.s (.int .i64 x)))])
      (fun x => [(17, .row 3 (encs lnE (shN s (t.getD k default).d x)))]) (fun x => s.length - x) 0 (fun x => x ≤ s.length) (Nat.zero_le _) (Weak.meets ?_) ?_
    · simp (maxSteps := 4000000) only [↓exT_call G26_37, ↓exT_callo G26_37, ↓exT_calloG G26_37, ↓exT_call G26_30, ↓exT_callo G26_30, ↓exT_calloG G26_30, ↓exT_callf G26_38, go_sem, Nat.reduceAdd, Nat.reduceSub, Nat.reduceMul, Nat.reduceEqDiff, Nat.reduceLeDiff, Nat.reduceLT, Nat.reduceBEq, Int.reduceLE, Int.reduceLT, Int.reduceToNat, Int.reduceNeg, Int.reduceAdd, Int.reduceSub, Int.reduceMul, ↓reduceIte]
      exact ⟨rfl, rfl⟩
    intro x hx
    have hkl : (k : Int) < (t.length : Int) := by omega
    by_cases hxl : x < s.length
    case neg =>
      have hxi : ¬ (x : Int) < (s.length : Int) := by omega
      obtain rfl : x = s.length := by omega
      rw [shN_end]
      have hml : (s.map (shL (t.getD k default).d)).length = s.length := List.length_map ..
      simp (maxSteps := 4000000) only [↓exT_call G26_37, ↓exT_callo G26_37, ↓exT_calloG G26_37, ↓exT_call G26_30, ↓exT_callo G26_30, ↓exT_calloG G26_30, ↓exT_callf G26_38, hxi, hml, go_sem, Nat.reduceAdd, Nat.reduceSub, Nat.reduceMul, Nat.reduceEqDiff, Nat.reduceLeDiff, Nat.reduceLT, Nat.reduceBEq, Int.reduceLE, Int.reduceLT, Int.reduceToNat, Int.reduceNeg, Int.reduceAdd, Int.reduceSub, Int.reduceMul, ↓reduceIte]
    have hxi : (x : Int) < (s.length : Int) := by omega
    have hsh := shN_len s (t.getD k default).d x
    have hsh2 := shN_len s (t.getD k default).d (x + 1)
    have hge := shN_get (d := (t.getD k default).d) hxl
    have hse := shN_set (d := (t.getD k default).d) hxl
    unfold shL at hse
    generalize hR : shN s (t.getD k default).d x = R at *
    generalize hR2 : shN s (t.getD k default).d (x + 1) = R2 at *
    have hxR : (x : Int) < (R.length : Int) := by omega
    have hsd : ∀ l ∈ t, 0 ≤ l.d ∧ l.d < 16 := fun l hm => ((sound_iff l).1 (goS_sound (right_len hr).2 l hm)).1
    have d1 := hsd _ (mem_getD hk)
    have d2 : 0 ≤ (s.getD x default).d ∧ (s.getD x default).d < 16 := by
      have := mem_getD hxl
      rw [← hs] at this
      rw [← hs]
      exact hsd _ (List.mem_of_mem_take (List.mem_of_mem_drop this))
    simp (maxSteps := 4000000) only [↓exT_call G26_37, ↓exT_callo G26_37, ↓exT_calloG G26_37, ↓exT_call G26_30, ↓exT_callo G26_30, ↓exT_calloG G26_30, ↓exT_callf G26_38, hxi, hkl, hxR, hge, hsh, hse, set_lnE, go_sem, Nat.reduceAdd, Nat.reduceSub, Nat.reduceMul, Nat.reduceEqDiff, Nat.reduceLeDiff, Nat.reduceLT, Nat.reduceBEq, Int.reduceLE, Int.reduceLT, Int.reduceToNat, Int.reduceNeg, Int.reduceAdd, Int.reduceSub, Int.reduceMul, ↓reduceIte]
    exact ⟨by omega, by omega, by omega, x + 1, by omega, by omega, by omega, by rw [hR2]⟩

def kidsG_enc : (List Ln) × (Bool) → List V := fun ⟨t, f⟩ => [.c (.s (.list 3 (encs lnE t) f)), .c (.s (.int .i64 (-1)))]
theorem kidsG_inj : ∀ x y, kidsG_enc x = kidsG_enc y → x = y := by
  rintro ⟨t, f⟩ ⟨t2, f2⟩ h
  simp only [kidsG_enc, List.cons.injEq, V.c.injEq, V.agg.injEq, C.s.injEq, S.list.injEq, S.str.injEq, S.int.injEq, S.bool.injEq, S.fn.injEq, S.cref.injEq, strE_inj, true_and, and_true, lnE_inj] at h
  simp_all
noncomputable def kidsG : List V → Option (Nat × List (List S)) := specE kidsG_enc (fun ⟨t, f⟩ => True) (fun ⟨t, f⟩ => (1, encs numE (kidsI t)))
theorem kidsG_eq {t : List Ln} {f : Bool} [Decidable (True)] : kidsG [.c (.s (.list 3 (encs lnE t) f)), .c (.s (.int .i64 (-1)))] = if True then some ((1, encs numE (kidsI t))) else none := specE_eq kidsG_inj (t, f)
theorem kidsG_callf {t : List Ln} {f : Bool} {m : Nat → Option Ab.Obj} {locs : List Nat} {d : Nat} {K : V → (Nat → Option Ab.Obj) → Prop} : callF kidsG (some [.c (.s (.list 3 (encs lnE t) f)), .c (.s (.int .i64 (-1)))]) m locs d K = ((True) ∧ m d = none ∧ K (.c (.own d ( encs numE (kidsI t)).length)) (upd (setAll m (sealL m locs)) d (some (.row 1 ( encs numE (kidsI t)))))) := by
  have := Classical.propDecidable (True)
  exact callF_of kidsG_eq
attribute [go_sem] kidsG_callf

def sc_tree_Kids : SC := .seq (.reg [⟨some 4, .mv, [.k (.c (.s (.list 0 [] true)))], none⟩]) (.seq (.seq (.reg [⟨some 10, .mv, [.t 0], none⟩,
⟨some 11, .call 19, [.t 10], none⟩,
⟨some 12, .not, [.t 11], none⟩,
⟨some 13, .mv, [.t 12], none⟩,
⟨some 14, .mv, [.t 1], some (13, false)⟩,
⟨some 15, .bin .lss, [.t 14, .k (.c (.s (.int .i64 (-1))))], some (13, false)⟩,
⟨some 16, .pick, [.t 13, .k (.c (.s (.bool true))), .t 15], none⟩,
⟨some 17, .mv, [.t 16], none⟩,
⟨some 18, .mv, [.t 1], some (17, false)⟩,
⟨some 19, .mv, [.t 0], some (17, false)⟩,
⟨some 20, .len false, [.t 19], some (17, false)⟩,
⟨some 21, .bin .geq, [.t 18, .t 20], some (17, false)⟩,
⟨some 22, .pick, [.t 17, .k (.c (.s (.bool true))), .t 21], none⟩]) (.cond (.t 22) (.seq (.reg [⟨some 4, .mv, [.k (.c (.s (.list 0 [] true)))], none⟩]) (.ret)) (.skip))) (.seq (.reg [⟨some 23, .mv, [.t 0], none⟩,
⟨some 24, .len false, [.t 23], none⟩,
⟨some 5, .mv, [.k (.c (.s (.int .i64 0)))], none⟩,
⟨some 6, .mv, [.t 24], none⟩,
⟨some 7, .mv, [.k (.c (.s (.int .i64 0)))], none⟩]) (.seq (.seq (.reg [⟨some 25, .mv, [.t 1], none⟩,
⟨some 26, .bin .geq, [.t 25, .k (.c (.s (.int .i64 0)))], none⟩]) (.cond (.t 26) (.regD [⟨some 27, .mv, [.t 1], none⟩,
⟨some 28, .bin .add, [.t 27, .k (.c (.s (.int .i64 1)))], none⟩,
⟨some 29, .mv, [.t 0], none⟩,
⟨some 30, .mv, [.t 1], none⟩,
⟨some 31, .call 30, [.t 29, .t 30], none⟩,
⟨some 32, .mv, [.t 0], none⟩,
⟨some 33, .mv, [.t 1], none⟩,
⟨some 34, .iadr 3, [.t 32, .t 33], none⟩,
⟨some 35, .fadr 0, [.t 34], none⟩,
⟨some 36, .load 1 false, [.t 35], none⟩,
⟨some 37, .bin .add, [.t 36, .k (.c (.s (.int .i64 1)))], none⟩,
⟨some 5, .mv, [.t 28], none⟩,
⟨some 6, .mv, [.t 31], none⟩,
⟨some 7, .mv, [.t 37], none⟩] [(4, 7), (4, 8), (4, 9)]) (.skip))) (.seq (.reg [⟨some 8, .mv, [.k (.c (.s (.list 0 [] true)))], none⟩]) (.seq (.seq (.reg [⟨some 38, .mv, [.t 5], none⟩,
⟨some 9, .mv, [.t 38], none⟩]) (.block 0 (.loop (.seq (.seq (.reg [⟨some 39, .mv, [.t 9], none⟩,
⟨some 40, .mv, [.t 6], none⟩,
⟨some 41, .bin .lss, [.t 39, .t 40], none⟩]) (.cond (.t 41) (.skip) (.exit 0))) (.seq (.block 1 (.seq (.reg [⟨some 44, .mv, [.t 0], none⟩,
⟨some 45, .mv, [.t 9], none⟩,
⟨some 46, .iadr 3, [.t 44, .t 45], none⟩,
⟨some 47, .fadr 0, [.t 46], none⟩,
⟨some 48, .load 1 false, [.t 47], none⟩,
⟨some 49, .mv, [.t 7], none⟩,
⟨some 50, .bin .eql, [.t 48, .t 49], none⟩]) (.cond (.t 50) (.reg [⟨some 51, .mv, [.t 8], none⟩,
⟨some 52, .mv, [.t 9], none⟩,
⟨some 53, .bslice 1 1 [.int .i64 0] [0], [.t 52], none⟩,
⟨some 54, .append false 1 8, [.t 51, .t 53], none⟩,
⟨some 8, .mv, [.t 54], none⟩]) (.skip)))) (.reg [⟨some 42, .mv, [.t 9], none⟩,
⟨some 43, .bin .add, [.t 42, .k (.c (.s (.int .i64 1)))], none⟩,
⟨some 9, .mv, [.t 43], none⟩])))))) (.seq (.reg [⟨some 55, .mv, [.t 8], none⟩,
⟨some 4, .mv, [.t 55], none⟩]) (.ret)))))))
noncomputable def G_tree_Kids : FuncId → Ab.Spec := addS (addS (noS) 19 (plain rightG)) 30 (plain endG)
theorem G_tree_Kids_ok : ∀ f, Contract Try.prog f (G_tree_Kids f) := (addS_ok (addS_ok (noS_ok _) contract_tree_Right) contract_tree_End)
theorem G18_19 : G_tree_Kids 19 = plain rightG := by simp [G_tree_Kids, addS]
theorem G18_30 : G_tree_Kids 30 = plain endG := by simp [G_tree_Kids, addS]
set_option maxHeartbeats 16000000 in
set_option maxRecDepth 1000000 in
set_option linter.unusedSimpArgs false in
set_option linter.unusedVariables false in
theorem contract_tree_Kids : Contract Try.prog 18 (fresh kidsG) := by
  have hb : ∃ c, Try.f18.body = some c ∧ codeOk 56 c = true ∧ cCode Try.prog c = sc_tree_Kids := ⟨_, rfl, by kernel_rfl, by kernel_rfl⟩
  obtain ⟨c, hb1, hb2, hb3⟩ := hb
  refine contract_of (n := 2) G_tree_Kids_ok hB hD Try.func18 hb1 (by kernel_rfl) hb2 hb3 (rs := [.tmp 4]) (by kernel_rfl) (by decide) ?_ ?_
  · intro args x h
    obtain ⟨y, hy, -⟩ := Option.map_eq_some_iff.1 h
    obtain ⟨⟨t, f⟩, rfl, -⟩ := specE_some hy
    rfl
  · intro args r hr
    obtain ⟨y, hy, rfl⟩ := Option.map_eq_some_iff.1 hr
    obtain ⟨⟨t, f⟩, rfl, hc, rfl⟩ := specE_some hy
    clear hr hy
    have hc : True := hc
    change awp _ _ (postQ _ (.fresh ((1, encs numE (kidsI t))).1 ((1, encs numE (kidsI t))).2)) _
    unfold kidsG_enc sc_tree_Kids
    cases h : rightT t with
    | false =>
      have he : kidsI t = [] := by unfold kidsI; rw [h]; rfl
      rw [he]
      simp (maxSteps := 4000000) only [↓exT_call G18_19, ↓exT_callo G18_19, ↓exT_calloG G18_19, ↓exT_call G18_30, ↓exT_callo G18_30, ↓exT_calloG G18_30, h, go_sem, Nat.reduceAdd, Nat.reduceSub, Nat.reduceMul, Nat.reduceEqDiff, Nat.reduceLeDiff, Nat.reduceLT, Nat.reduceBEq, Int.reduceLE, Int.reduceLT, Int.reduceToNat, Int.reduceNeg, Int.reduceAdd, Int.reduceSub, Int.reduceMul, ↓reduceIte]
    | true =>
    have he : kidsI t = numsU (kidB t) t.length := by unfold kidsI; rw [h]; rfl
    have hl := (right_len h).1
    have h1 : ¬ (t.length : Int) ≤ -1 := by omega
    rw [he]
    simp (maxSteps := 4000000) only [↓exT_call G18_19, ↓exT_callo G18_19, ↓exT_calloG G18_19, ↓exT_call G18_30, ↓exT_callo G18_30, ↓exT_calloG G18_30, h, h1, go_sem, Nat.reduceAdd, Nat.reduceSub, Nat.reduceMul, Nat.reduceEqDiff, Nat.reduceLeDiff, Nat.reduceLT, Nat.reduceBEq, Int.reduceLE, Int.reduceLT, Int.reduceToNat, Int.reduceNeg, Int.reduceAdd, Int.reduceSub, Int.reduceMul, ↓reduceIte]
    refine awp_loopM (α := Nat) (fun x => [(0, .c (.s (.list 3 (encs lnE t) f))), (6, .c (.s (.int .i64 t.length))), (7, .c (.s (.int .i64 0))), (8, .c (.own 8 (numsU (kidB t) x).length)), (9, .c (.s (.int .i64 x)))])
      (fun x => [(8, .row 1 (encs numE (numsU (kidB t) x)))]) (fun x => t.length - x) 0 (fun x => x ≤ t.length) (Nat.zero_le _) (Weak.trans (Weak.nilSlot 8 8 1 rfl rfl) (Weak.meets ?_)) ?_
    · simp (maxSteps := 4000000) only [↓exT_call G18_19, ↓exT_callo G18_19, ↓exT_calloG G18_19, ↓exT_call G18_30, ↓exT_callo G18_30, ↓exT_calloG G18_30, go_sem, Nat.reduceAdd, Nat.reduceSub, Nat.reduceMul, Nat.reduceEqDiff, Nat.reduceLeDiff, Nat.reduceLT, Nat.reduceBEq, Int.reduceLE, Int.reduceLT, Int.reduceToNat, Int.reduceNeg, Int.reduceAdd, Int.reduceSub, Int.reduceMul, ↓reduceIte]
      exact ⟨⟨rfl, rfl⟩, rfl⟩
    intro x hx
    by_cases hxl : x < t.length
    case neg =>
      have hxi : ¬ (x : Int) < (t.length : Int) := by omega
      obtain rfl : x = t.length := by omega
      simp (maxSteps := 4000000) only [↓exT_call G18_19, ↓exT_callo G18_19, ↓exT_calloG G18_19, ↓exT_call G18_30, ↓exT_callo G18_30, ↓exT_calloG G18_30, hxi, go_sem, Nat.reduceAdd, Nat.reduceSub, Nat.reduceMul, Nat.reduceEqDiff, Nat.reduceLeDiff, Nat.reduceLT, Nat.reduceBEq, Int.reduceLE, Int.reduceLT, Int.reduceToNat, Int.reduceNeg, Int.reduceAdd, Int.reduceSub, Int.reduceMul, ↓reduceIte]
    have hxi : (x : Int) < (t.length : Int) := by omega
    have hnl := numsU_len (kidB t) x
    by_cases hd : (t.getD x default).d = 0
    · have ht : numsU (kidB t) (x + 1) = numsU (kidB t) x ++ [(x : Int)] := numsU_yes (decide_eq_true hd)
      simp (maxSteps := 4000000) only [↓exT_call G18_19, ↓exT_callo G18_19, ↓exT_calloG G18_19, ↓exT_call G18_30, ↓exT_callo G18_30, ↓exT_calloG G18_30, hxi, hd, nums_snoc, go_sem, Nat.reduceAdd, Nat.reduceSub, Nat.reduceMul, Nat.reduceEqDiff, Nat.reduceLeDiff, Nat.reduceLT, Nat.reduceBEq, Int.reduceLE, Int.reduceLT, Int.reduceToNat, Int.reduceNeg, Int.reduceAdd, Int.reduceSub, Int.reduceMul, ↓reduceIte]
      rw [← ht]
      exact ⟨by omega, by omega, x + 1, by omega, by omega, ⟨by rw [ht]; simp, by omega⟩, rfl⟩
    · have ht : numsU (kidB t) (x + 1) = numsU (kidB t) x := numsU_no (decide_eq_false hd)
      simp (maxSteps := 4000000) only [↓exT_call G18_19, ↓exT_callo G18_19, ↓exT_calloG G18_19, ↓exT_call G18_30, ↓exT_callo G18_30, ↓exT_calloG G18_30, hxi, hd, go_sem, Nat.reduceAdd, Nat.reduceSub, Nat.reduceMul, Nat.reduceEqDiff, Nat.reduceLeDiff, Nat.reduceLT, Nat.reduceBEq, Int.reduceLE, Int.reduceLT, Int.reduceToNat, Int.reduceNeg, Int.reduceAdd, Int.reduceSub, Int.reduceMul, ↓reduceIte]
      rw [← ht]
      exact ⟨by omega, x + 1, by omega, by omega, ⟨by rw [ht], by omega⟩, rfl⟩

def leavesG_enc : (List Ln) × (Bool) → List V := fun ⟨t, f⟩ => [.c (.s (.list 3 (encs lnE t) f))]
theorem leavesG_inj : ∀ x y, leavesG_enc x = leavesG_enc y → x = y := by
  rintro ⟨t, f⟩ ⟨t2, f2⟩ h
  simp only [leavesG_enc, List.cons.injEq, V.c.injEq, V.agg.injEq, C.s.injEq, S.list.injEq, S.str.injEq, S.int.injEq, S.bool.injEq, S.fn.injEq, S.cref.injEq, strE_inj, true_and, and_true, lnE_inj] at h
  simp_all
noncomputable def leavesG : List V → Option (Nat × List (List S)) := specE leavesG_enc (fun ⟨t, f⟩ => True) (fun ⟨t, f⟩ => (1, encs numE (leavesI t)))
theorem leavesG_eq {t : List Ln} {f : Bool} [Decidable (True)] : leavesG [.c (.s (.list 3 (encs lnE t) f))] = if True then some ((1, encs numE (leavesI t))) else none := specE_eq leavesG_inj (t, f)
theorem leavesG_callf {t : List Ln} {f : Bool} {m : Nat → Option Ab.Obj} {locs : List Nat} {d : Nat} {K : V → (Nat → Option Ab.Obj) → Prop} : callF leavesG (some [.c (.s (.list 3 (encs lnE t) f))]) m locs d K = ((True) ∧ m d = none ∧ K (.c (.own d ( encs numE (leavesI t)).length)) (upd (setAll m (sealL m locs)) d (some (.row 1 ( encs numE (leavesI t)))))) := by
  have := Classical.propDecidable (True)
  exact callF_of leavesG_eq
attribute [go_sem] leavesG_callf

def sc_tree_Leaves : SC := .seq (.reg [⟨some 2, .mv, [.k (.c (.s (.list 0 [] true)))], none⟩]) (.seq (.seq (.reg [⟨some 5, .mv, [.t 0], none⟩,
⟨some 6, .call 19, [.t 5], none⟩,
⟨some 7, .not, [.t 6], none⟩]) (.cond (.t 7) (.seq (.reg [⟨some 2, .mv, [.k (.c (.s (.list 0 [] true)))], none⟩]) (.ret)) (.skip))) (.seq (.reg [⟨some 3, .mv, [.k (.c (.s (.list 0 [] true)))], none⟩]) (.seq (.seq (.reg [⟨some 8, .mv, [.t 0], none⟩,
⟨some 9, .len false, [.t 8], none⟩,
⟨some 10, .mv, [.k (.c (.s (.int .i64 0)))], none⟩]) (.block 0 (.loop (.seq (.reg [⟨some 11, .bin .lss, [.t 10, .t 9], none⟩]) (.seq (.cond (.t 11) (.skip) (.exit 0)) (.seq (.block 1 (.seq (.reg [⟨some 12, .mv, [.t 10], none⟩,
⟨some 4, .mv, [.t 12], none⟩]) (.seq (.regD [⟨some 13, .mv, [.t 4], none⟩,
⟨some 14, .bin .add, [.t 13, .k (.c (.s (.int .i64 1)))], none⟩,
⟨some 15, .mv, [.t 0], none⟩,
⟨some 16, .len false, [.t 15], none⟩,
⟨some 17, .bin .eql, [.t 14, .t 16], none⟩,
⟨some 18, .mv, [.t 17], none⟩,
⟨some 19, .mv, [.t 0], some (18, false)⟩,
⟨some 20, .mv, [.t 4], some (18, false)⟩,
⟨some 21, .bin .add, [.t 20, .k (.c (.s (.int .i64 1)))], some (18, false)⟩,
⟨some 22, .iadr 3, [.t 19, .t 21], some (18, false)⟩,
⟨some 23, .fadr 0, [.t 22], some (18, false)⟩,
⟨some 24, .load 1 false, [.t 23], some (18, false)⟩,
⟨some 25, .mv, [.t 0], some (18, false)⟩,
⟨some 26, .mv, [.t 4], some (18, false)⟩,
⟨some 27, .iadr 3, [.t 25, .t 26], some (18, false)⟩,
⟨some 28, .fadr 0, [.t 27], some (18, false)⟩,
⟨some 29, .load 1 false, [.t 28], some (18, false)⟩,
⟨some 30, .bin .leq, [.t 24, .t 29], some (18, false)⟩,
⟨some 31, .pick, [.t 18, .k (.c (.s (.bool true))), .t 30], none⟩] []) (.cond (.t 31) (.reg [⟨some 32, .mv, [.t 3], none⟩,
⟨some 33, .mv, [.t 4], none⟩,
⟨some 34, .bslice 1 1 [.int .i64 0] [0], [.t 33], none⟩,
⟨some 35, .append false 1 8, [.t 32, .t 34], none⟩,
⟨some 3, .mv, [.t 35], none⟩]) (.skip))))) (.reg [⟨some 36, .bin .add, [.t 10, .k (.c (.s (.int .i64 1)))], none⟩,
⟨some 10, .mv, [.t 36], none⟩]))))))) (.seq (.reg [⟨some 37, .mv, [.t 3], none⟩,
⟨some 2, .mv, [.t 37], none⟩]) (.ret)))))
noncomputable def G_tree_Leaves : FuncId → Ab.Spec := addS (noS) 19 (plain rightG)
theorem G_tree_Leaves_ok : ∀ f, Contract Try.prog f (G_tree_Leaves f) := (addS_ok (noS_ok _) contract_tree_Right)
theorem G17_19 : G_tree_Leaves 19 = plain rightG := by simp [G_tree_Leaves, addS]
set_option maxHeartbeats 16000000 in
set_option maxRecDepth 1000000 in
set_option linter.unusedSimpArgs false in
set_option linter.unusedVariables false in
theorem contract_tree_Leaves : Contract Try.prog 17 (fresh leavesG) := by
  have hb : ∃ c, Try.f17.body = some c ∧ codeOk 38 c = true ∧ cCode Try.prog c = sc_tree_Leaves := ⟨_, rfl, by kernel_rfl, by kernel_rfl⟩
  obtain ⟨c, hb1, hb2, hb3⟩ := hb
  refine contract_of (n := 1) G_tree_Leaves_ok hB hD Try.func17 hb1 (by kernel_rfl) hb2 hb3 (rs := [.tmp 2]) (by kernel_rfl) (by decide) ?_ ?_
  · intro args x h
    obtain ⟨y, hy, -⟩ := Option.map_eq_some_iff.1 h
    obtain ⟨⟨t, f⟩, rfl, -⟩ := specE_some hy
    rfl
  · intro args r hr
    obtain ⟨y, hy, rfl⟩ := Option.map_eq_some_iff.1 hr
    obtain ⟨⟨t, f⟩, rfl, hc, rfl⟩ := specE_some hy
    clear hr hy
    have hc : True := hc
    change awp _ _ (postQ _ (.fresh ((1, encs numE (leavesI t))).1 ((1, encs numE (leavesI t))).2)) _
    unfold leavesG_enc sc_tree_Leaves
    cases h : rightT t with
    | false =>
      have he : leavesI t = [] := by unfold leavesI; rw [h]; rfl
      rw [he]
      simp (maxSteps := 4000000) only [↓exT_call G17_19, ↓exT_callo G17_19, ↓exT_calloG G17_19, h, go_sem, Nat.reduceAdd, Nat.reduceSub, Nat.reduceMul, Nat.reduceEqDiff, Nat.reduceLeDiff, Nat.reduceLT, Nat.reduceBEq, Int.reduceLE, Int.reduceLT, Int.reduceToNat, Int.reduceNeg, Int.reduceAdd, Int.reduceSub, Int.reduceMul, ↓reduceIte]
    | true =>
    have he : leavesI t = numsU (leafB t) t.length := by unfold leavesI; rw [h]; rfl
    have hl := (right_len h).1
    rw [he]
    simp (maxSteps := 4000000) only [↓exT_call G17_19, ↓exT_callo G17_19, ↓exT_calloG G17_19, h, go_sem, Nat.reduceAdd, Nat.reduceSub, Nat.reduceMul, Nat.reduceEqDiff, Nat.reduceLeDiff, Nat.reduceLT, Nat.reduceBEq, Int.reduceLE, Int.reduceLT, Int.reduceToNat, Int.reduceNeg, Int.reduceAdd, Int.reduceSub, Int.reduceMul, ↓reduceIte]
    refine awp_loopM (α := Nat) (fun x => [(0, .c (.s (.list 3 (encs lnE t) f))), (3, .c (.own 3 (numsU (leafB t) x).length)), (9, .c (.s (.int .i64 t.length))), (10, .c (.s (.int .i64 x)))])
      (fun x => [(3, .row 1 (encs numE (numsU (leafB t) x)))]) (fun x => t.length - x) 0 (fun x => x ≤ t.length) (Nat.zero_le _) (Weak.trans (Weak.nilSlot 3 3 1 rfl rfl) (Weak.meets ?_)) ?_
    · simp (maxSteps := 4000000) only [↓exT_call G17_19, ↓exT_callo G17_19, ↓exT_calloG G17_19, go_sem, Nat.reduceAdd, Nat.reduceSub, Nat.reduceMul, Nat.reduceEqDiff, Nat.reduceLeDiff, Nat.reduceLT, Nat.reduceBEq, Int.reduceLE, Int.reduceLT, Int.reduceToNat, Int.reduceNeg, Int.reduceAdd, Int.reduceSub, Int.reduceMul, ↓reduceIte]
      exact ⟨⟨rfl, rfl⟩, rfl⟩
    intro x hx
    by_cases hxl : x < t.length
    case neg =>
      have hxi : ¬ (x : Int) < (t.length : Int) := by omega
      obtain rfl : x = t.length := by omega
      simp (maxSteps := 4000000) only [↓exT_call G17_19, ↓exT_callo G17_19, ↓exT_calloG G17_19, hxi, go_sem, Nat.reduceAdd, Nat.reduceSub, Nat.reduceMul, Nat.reduceEqDiff, Nat.reduceLeDiff, Nat.reduceLT, Nat.reduceBEq, Int.reduceLE, Int.reduceLT, Int.reduceToNat, Int.reduceNeg, Int.reduceAdd, Int.reduceSub, Int.reduceMul, ↓reduceIte]
    have hxi : (x : Int) < (t.length : Int) := by omega
    have hnl := numsU_len (leafB t) x
    by_cases he : x + 1 = t.length
    · have ht : numsU (leafB t) (x + 1) = numsU (leafB t) x ++ [(x : Int)] := numsU_yes (by unfold leafB; rw [decide_eq_true he]; rfl)
      have hei : (x : Int) + 1 = (t.length : Int) := by omega
      have hei2 : ((x : Int) + 1 = (t.length : Int)) = True := eq_true hei
      simp (maxSteps := 4000000) only [↓exT_call G17_19, ↓exT_callo G17_19, ↓exT_calloG G17_19, hxi, hei2, nums_snoc, go_sem, Nat.reduceAdd, Nat.reduceSub, Nat.reduceMul, Nat.reduceEqDiff, Nat.reduceLeDiff, Nat.reduceLT, Nat.reduceBEq, Int.reduceLE, Int.reduceLT, Int.reduceToNat, Int.reduceNeg, Int.reduceAdd, Int.reduceSub, Int.reduceMul, ↓reduceIte]
      rw [← ht]
      exact ⟨by omega, by omega, by omega, x + 1, by omega, by omega, ⟨by rw [ht]; simp, by omega⟩, rfl⟩
    have hei : ¬ (x : Int) + 1 = (t.length : Int) := by omega
    have hxi2 : (x : Int) + 1 < (t.length : Int) := by omega
    have hxn : ((x : Int) + 1).toNat = x + 1 := by omega
    have hx0 : (0 : Int) ≤ (x : Int) + 1 := by omega
    have hx1 : ((x + 1 : Nat) : Int) < (t.length : Int) := by omega
    by_cases hd : (t.getD (x + 1) default).d ≤ (t.getD x default).d
    · have ht : numsU (leafB t) (x + 1) = numsU (leafB t) x ++ [(x : Int)] := numsU_yes (by unfold leafB; rw [decide_eq_true hd]; simp)
      simp (maxSteps := 4000000) only [↓exT_call G17_19, ↓exT_callo G17_19, ↓exT_calloG G17_19, hxi, hei, hxi2, hx0, hx1, hxn, hd, nums_snoc, go_sem, Nat.reduceAdd, Nat.reduceSub, Nat.reduceMul, Nat.reduceEqDiff, Nat.reduceLeDiff, Nat.reduceLT, Nat.reduceBEq, Int.reduceLE, Int.reduceLT, Int.reduceToNat, Int.reduceNeg, Int.reduceAdd, Int.reduceSub, Int.reduceMul, ↓reduceIte]
      rw [← ht]
      exact ⟨by omega, by omega, by omega, by omega, x + 1, by omega, by omega, ⟨by rw [ht]; simp, by omega⟩, rfl⟩
    · have ht : numsU (leafB t) (x + 1) = numsU (leafB t) x := numsU_no (by unfold leafB; rw [decide_eq_false hd, decide_eq_false he]; rfl)
      simp (maxSteps := 4000000) only [↓exT_call G17_19, ↓exT_callo G17_19, ↓exT_calloG G17_19, hxi, hei, hxi2, hx0, hx1, hxn, hd, go_sem, Nat.reduceAdd, Nat.reduceSub, Nat.reduceMul, Nat.reduceEqDiff, Nat.reduceLeDiff, Nat.reduceLT, Nat.reduceBEq, Int.reduceLE, Int.reduceLT, Int.reduceToNat, Int.reduceNeg, Int.reduceAdd, Int.reduceSub, Int.reduceMul, ↓reduceIte]
      rw [← ht]
      exact ⟨by omega, by omega, by omega, x + 1, by omega, by omega, ⟨by rw [ht], by omega⟩, rfl⟩

end Go.Proofs.Ytjjjgagmknlpmaa
