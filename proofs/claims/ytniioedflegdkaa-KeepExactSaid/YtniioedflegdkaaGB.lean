/- G6 G7 G8 G9 -/
import Derived.Test.YtniioedflegdkaaGA
import Derived.Test.YtniioedflegdkaaLA
import Derived.Test.YtniioedflegdkaaLA
import Derived.Test.YtniioedflegdkaaLA
set_option linter.all false
/- The functions of package keep; records as the document's. -/
namespace Go.Proofs.Ytniioedflegdkaa
open Go Go.Ab Go.Proofs Go.Fs
theorem recs_snoc {l : List Rec} {i : Nat} (h : i < l.length) : encs recE (l.take i) ++ [[.int .i64 (l.getD i default).num, .str (l.getD i default).text]] = encs recE (l.take (i + 1)) := by
  rw [take_getD h, encs_append]; rfl
def refsRG_enc : (List Rec) × (Bool) → List V := fun ⟨l, f⟩ => [.c (.s (.list 2 (encs recE l) f))]
theorem refsRG_inj : ∀ x y, refsRG_enc x = refsRG_enc y → x = y := by
  rintro ⟨l, f⟩ ⟨l2, f2⟩ h
  simp only [refsRG_enc, List.cons.injEq, V.c.injEq, V.agg.injEq, C.s.injEq, S.list.injEq, S.str.injEq, S.int.injEq, S.bool.injEq, S.fn.injEq, S.cref.injEq, strE_inj, true_and, and_true, recE_inj] at h
  simp_all
noncomputable def refsRG : List V → Option (V) := specE refsRG_enc (fun ⟨l, f⟩ => l.length < 4000000) (fun ⟨l, f⟩ => .c (.s (.list 2 (encs recE l) false)))
theorem refsRG_eq {l : List Rec} {f : Bool} [Decidable (l.length < 4000000)] : refsRG [.c (.s (.list 2 (encs recE l) f))] = if l.length < 4000000 then some (.c (.s (.list 2 (encs recE l) false))) else none := specE_eq refsRG_inj (l, f)
theorem refsRG_call {l : List Rec} {f : Bool} {gt : Bool} {K : V → Prop} : callE refsRG [.c (.s (.list 2 (encs recE l) f))] gt K = ((gt = true → l.length < 4000000) ∧ bindV (ifV gt (.c (.s (.list 2 (encs recE l) false)))) K) := by
  have := Classical.propDecidable (l.length < 4000000)
  exact callE_of refsRG_eq
theorem refsRG_callo {l : List Rec} {f : Bool} {m : Nat → Option Ab.Obj} {locs : List Nat} {K : V → (Nat → Option Ab.Obj) → Prop} : callO refsRG (some [.c (.s (.list 2 (encs recE l) f))]) m locs K = ((l.length < 4000000) ∧ K (.c (.s (.list 2 (encs recE l) false))) (sealW m locs (.c (.s (.list 2 (encs recE l) false))))) := by
  have := Classical.propDecidable (l.length < 4000000)
  exact callO_of refsRG_eq
attribute [go_sem] refsRG_call refsRG_callo

def sc_law18_Refs : SC := .seq (.reg [⟨some 2, .mv, [.k (.c (.s (.list 0 [] true)))], none⟩]) (.seq (.reg [⟨some 3, .mv, [.k (.c (.s (.list 0 [] true)))], none⟩]) (.seq (.seq (.reg [⟨some 6, .mv, [.t 0], none⟩,
⟨some 7, .len false, [.t 6], none⟩,
⟨some 8, .mv, [.k (.c (.s (.int .i64 0)))], none⟩]) (.block 0 (.loop (.seq (.reg [⟨some 9, .bin .lss, [.t 8, .t 7], none⟩]) (.seq (.cond (.t 9) (.skip) (.exit 0)) (.seq (.block 1 (.seq (.reg [⟨some 10, .iadr 2, [.t 6, .t 8], none⟩,
⟨some 11, .load 2 true, [.t 10], none⟩,
⟨some 5, .alloc [.int .i64 0, .str []], [], none⟩,
⟨none, .store 2 true, [.t 5, .t 11], none⟩]) (.reg [⟨some 12, .mv, [.t 3], none⟩,
⟨some 13, .load 2 true, [.t 5], none⟩,
⟨some 14, .bslice 2 1 [.int .i64 0, .str []] [0], [.t 13], none⟩,
⟨some 15, .append false 2 24, [.t 12, .t 14], none⟩,
⟨some 3, .mv, [.t 15], none⟩]))) (.reg [⟨some 16, .bin .add, [.t 8, .k (.c (.s (.int .i64 1)))], none⟩,
⟨some 8, .mv, [.t 16], none⟩]))))))) (.seq (.reg [⟨some 17, .mv, [.t 3], none⟩,
⟨some 2, .mv, [.t 17], none⟩]) (.ret))))
noncomputable def G_law18_Refs : FuncId → Ab.Spec := noS
theorem G_law18_Refs_ok : ∀ f, Contract Try.prog f (G_law18_Refs f) := (noS_ok _)
set_option maxHeartbeats 16000000 in
set_option maxRecDepth 1000000 in
set_option linter.unusedSimpArgs false in
set_option linter.unusedVariables false in
theorem contract_law18_Refs : Contract Try.prog 19 (plain refsRG) := by
  have hb : ∃ c, Try.f19.body = some c ∧ codeOk 18 c = true ∧ cCode Try.prog c = sc_law18_Refs := ⟨_, rfl, by kernel_rfl, by kernel_rfl⟩
  obtain ⟨c, hb1, hb2, hb3⟩ := hb
  refine contract_of (n := 1) G_law18_Refs_ok hB hD Try.func19 hb1 (by kernel_rfl) hb2 hb3 (rs := [.tmp 2]) (by kernel_rfl) (by decide) ?_ ?_
  · intro args x h
    obtain ⟨y, hy, -⟩ := Option.map_eq_some_iff.1 h
    obtain ⟨⟨l, f⟩, rfl, -⟩ := specE_some hy
    rfl
  · intro args r hr
    obtain ⟨y, hy, rfl⟩ := Option.map_eq_some_iff.1 hr
    obtain ⟨⟨l, f⟩, rfl, hc, rfl⟩ := specE_some hy
    clear hr hy
    have hc : l.length < 4000000 := hc
    change awp _ _ (postQ _ (.v (.c (.s (.list 2 (encs recE l) false))))) _
    unfold refsRG_enc sc_law18_Refs
    simp +contextual (maxSteps := 4000000) only [go_sem, Nat.reduceAdd, Nat.reduceSub, Nat.reduceMul, Nat.reduceEqDiff, Nat.reduceLeDiff, Nat.reduceLT, Nat.reduceBEq, Int.reduceLE, Int.reduceLT, Int.reduceToNat, Int.reduceNeg, Int.reduceAdd, Int.reduceSub, Int.reduceMul, ↓reduceIte]
    refine awp_loopM (α := Nat) (fun i => [(3, .c (.own 3 i)), (6, .c (.s (.list 2 (encs recE l) f))), (7, .c (.s (.int .i64 l.length))), (8, .c (.s (.int .i64 i)))])
      (fun i => [(3, .row 2 (encs recE (l.take i)))]) (fun i => l.length - i) 0 (fun i => i ≤ l.length) (Nat.zero_le _) (Weak.trans (Weak.nilSlot 3 3 2 rfl rfl) (Weak.meets ?_)) ?_
    · simp +contextual (maxSteps := 4000000) only [go_sem, Nat.reduceAdd, Nat.reduceSub, Nat.reduceMul, Nat.reduceEqDiff, Nat.reduceLeDiff, Nat.reduceLT, Nat.reduceBEq, Int.reduceLE, Int.reduceLT, Int.reduceToNat, Int.reduceNeg, Int.reduceAdd, Int.reduceSub, Int.reduceMul, ↓reduceIte]
      simp
    intro x hx
    have hl : (encs recE (l.take x)).length = x := by simp [encs]; omega
    by_cases hxl : x < l.length
    · have hxi : (x : Int) < (l.length : Int) := by omega
      simp +contextual (maxSteps := 4000000) only [hxi, hl, recs_snoc hxl, go_sem, Nat.reduceAdd, Nat.reduceSub, Nat.reduceMul, Nat.reduceEqDiff, Nat.reduceLeDiff, Nat.reduceLT, Nat.reduceBEq, Int.reduceLE, Int.reduceLT, Int.reduceToNat, Int.reduceNeg, Int.reduceAdd, Int.reduceSub, Int.reduceMul, ↓reduceIte]
      refine ⟨by omega, by omega, x + 1, ?_⟩
      simp
      omega
    · have hxi : ¬ (x : Int) < (l.length : Int) := by omega
      obtain rfl : x = l.length := by omega
      rw [List.take_length]
      simp +contextual (maxSteps := 4000000) only [hxi, go_sem, Nat.reduceAdd, Nat.reduceSub, Nat.reduceMul, Nat.reduceEqDiff, Nat.reduceLeDiff, Nat.reduceLT, Nat.reduceBEq, Int.reduceLE, Int.reduceLT, Int.reduceToNat, Int.reduceNeg, Int.reduceAdd, Int.reduceSub, Int.reduceMul, ↓reduceIte]

def sameLG_enc : (List Rec) × (Bool) × (List Rec) × (Nat) × (Bool) → List V := fun ⟨l, f, q, k, g⟩ => [.c (.s (.list 2 (encs recE l) f)), .c (.s (.list k (encs recE q) g))]
theorem sameLG_inj : ∀ x y, sameLG_enc x = sameLG_enc y → x = y := by
  rintro ⟨l, f, q, k, g⟩ ⟨l2, f2, q2, k2, g2⟩ h
  simp only [sameLG_enc, List.cons.injEq, V.c.injEq, V.agg.injEq, C.s.injEq, S.list.injEq, S.str.injEq, S.int.injEq, S.bool.injEq, S.fn.injEq, S.cref.injEq, strE_inj, true_and, and_true, recE_inj] at h
  simp_all
noncomputable def sameLG : List V → Option (V) := specE sameLG_enc (fun ⟨l, f, q, k, g⟩ => (k = 2 ∨ q = []) ∧ l.length < 4000000) (fun ⟨l, f, q, k, g⟩ => .c (.s (.bool (decide (l = q)))))
theorem sameLG_eq {l : List Rec} {f : Bool} {q : List Rec} {k : Nat} {g : Bool} [Decidable ((k = 2 ∨ q = []) ∧ l.length < 4000000)] : sameLG [.c (.s (.list 2 (encs recE l) f)), .c (.s (.list k (encs recE q) g))] = if (k = 2 ∨ q = []) ∧ l.length < 4000000 then some (.c (.s (.bool (decide (l = q))))) else none := specE_eq sameLG_inj (l, f, q, k, g)
theorem sameLG_call {l : List Rec} {f : Bool} {q : List Rec} {k : Nat} {g : Bool} {gt : Bool} {K : V → Prop} : callE sameLG [.c (.s (.list 2 (encs recE l) f)), .c (.s (.list k (encs recE q) g))] gt K = ((gt = true → (k = 2 ∨ q = []) ∧ l.length < 4000000) ∧ bindV (ifV gt (.c (.s (.bool (decide (l = q)))))) K) := by
  have := Classical.propDecidable ((k = 2 ∨ q = []) ∧ l.length < 4000000)
  exact callE_of sameLG_eq
theorem sameLG_callo {l : List Rec} {f : Bool} {q : List Rec} {k : Nat} {g : Bool} {m : Nat → Option Ab.Obj} {locs : List Nat} {K : V → (Nat → Option Ab.Obj) → Prop} : callO sameLG (some [.c (.s (.list 2 (encs recE l) f)), .c (.s (.list k (encs recE q) g))]) m locs K = (((k = 2 ∨ q = []) ∧ l.length < 4000000) ∧ K (.c (.s (.bool (decide (l = q))))) (sealW m locs (.c (.s (.bool (decide (l = q))))))) := by
  have := Classical.propDecidable ((k = 2 ∨ q = []) ∧ l.length < 4000000)
  exact callO_of sameLG_eq
attribute [go_sem] sameLG_call sameLG_callo

def sc_ref18_Records : SC := .seq (.reg [⟨some 4, .mv, [.k (.c (.s (.bool false)))], none⟩]) (.seq (.seq (.reg [⟨some 6, .mv, [.t 0], none⟩,
⟨some 7, .len false, [.t 6], none⟩,
⟨some 8, .mv, [.t 1], none⟩,
⟨some 9, .len false, [.t 8], none⟩,
⟨some 10, .bin .neq, [.t 7, .t 9], none⟩]) (.cond (.t 10) (.seq (.reg [⟨some 4, .mv, [.k (.c (.s (.bool false)))], none⟩]) (.ret)) (.skip))) (.seq (.seq (.reg [⟨some 5, .mv, [.k (.c (.s (.int .i64 0)))], none⟩]) (.block 0 (.loop (.seq (.seq (.reg [⟨some 11, .mv, [.t 5], none⟩,
⟨some 12, .mv, [.t 0], none⟩,
⟨some 13, .len false, [.t 12], none⟩,
⟨some 14, .bin .lss, [.t 11, .t 13], none⟩]) (.cond (.t 14) (.skip) (.exit 0))) (.seq (.block 1 (.seq (.regD [⟨some 17, .mv, [.t 0], none⟩,
⟨some 18, .mv, [.t 5], none⟩,
⟨some 19, .iadr 2, [.t 17, .t 18], none⟩,
⟨some 20, .load 2 true, [.t 19], none⟩,
⟨some 21, .mv, [.t 1], none⟩,
⟨some 22, .mv, [.t 5], none⟩,
⟨some 23, .iadr 2, [.t 21, .t 22], none⟩,
⟨some 24, .load 2 true, [.t 23], none⟩,
⟨some 25, .eqA true [1, 2], [.t 20, .t 24], none⟩] []) (.cond (.t 25) (.seq (.reg [⟨some 4, .mv, [.k (.c (.s (.bool false)))], none⟩]) (.ret)) (.skip)))) (.reg [⟨some 15, .mv, [.t 5], none⟩,
⟨some 16, .bin .add, [.t 15, .k (.c (.s (.int .i64 1)))], none⟩,
⟨some 5, .mv, [.t 16], none⟩])))))) (.seq (.reg [⟨some 4, .mv, [.k (.c (.s (.bool true)))], none⟩]) (.ret))))
noncomputable def G_ref18_Records : FuncId → Ab.Spec := noS
theorem G_ref18_Records_ok : ∀ f, Contract Try.prog f (G_ref18_Records f) := (noS_ok _)
set_option maxHeartbeats 16000000 in
set_option maxRecDepth 1000000 in
set_option linter.unusedSimpArgs false in
set_option linter.unusedVariables false in
theorem contract_ref18_Records : Contract Try.prog 18 (plain sameLG) := by
  have hb : ∃ c, Try.f18.body = some c ∧ codeOk 26 c = true ∧ cCode Try.prog c = sc_ref18_Records := ⟨_, rfl, by kernel_rfl, by kernel_rfl⟩
  obtain ⟨c, hb1, hb2, hb3⟩ := hb
  refine contract_of (n := 2) G_ref18_Records_ok hB hD Try.func18 hb1 (by kernel_rfl) hb2 hb3 (rs := [.tmp 4]) (by kernel_rfl) (by decide) ?_ ?_
  · intro args x h
    obtain ⟨y, hy, -⟩ := Option.map_eq_some_iff.1 h
    obtain ⟨⟨l, f, q, k, g⟩, rfl, -⟩ := specE_some hy
    rfl
  · intro args r hr
    obtain ⟨y, hy, rfl⟩ := Option.map_eq_some_iff.1 hr
    obtain ⟨⟨l, f, q, k, g⟩, rfl, hc, rfl⟩ := specE_some hy
    clear hr hy
    have hc : (k = 2 ∨ q = []) ∧ l.length < 4000000 := hc
    change awp _ _ (postQ _ (.v (.c (.s (.bool (decide (l = q))))))) _
    unfold sameLG_enc sc_ref18_Records
    obtain ⟨hk, hc⟩ := hc
    by_cases h1 : l.length = q.length
    case neg =>
      have hi : ¬ (l.length : Int) = (q.length : Int) := by omega
      have hn : ¬ l = q := fun h => h1 (by rw [h])
      simp (maxSteps := 4000000) only [hi, hn, go_sem, Nat.reduceAdd, Nat.reduceSub, Nat.reduceMul, Nat.reduceEqDiff, Nat.reduceLeDiff, Nat.reduceLT, Nat.reduceBEq, Int.reduceLE, Int.reduceLT, Int.reduceToNat, Int.reduceNeg, Int.reduceAdd, Int.reduceSub, Int.reduceMul, ↓reduceIte]
      all_goals ((repeat' (first | with_reducible apply And.intro | intro)) <;> first | omega | (with_reducible rfl) | skip)
    have hi : (l.length : Int) = (q.length : Int) := by omega
    simp (maxSteps := 4000000) only [hi, go_sem, Nat.reduceAdd, Nat.reduceSub, Nat.reduceMul, Nat.reduceEqDiff, Nat.reduceLeDiff, Nat.reduceLT, Nat.reduceBEq, Int.reduceLE, Int.reduceLT, Int.reduceToNat, Int.reduceNeg, Int.reduceAdd, Int.reduceSub, Int.reduceMul, ↓reduceIte]
    refine awp_loopM (α := Nat) (fun i => [(0, .c (.s (.list 2 (encs recE l) f))), (1, .c (.s (.list k (encs recE q) g))), (5, .c (.s (.int .i64 i)))]) (fun _ => []) (fun i => l.length - i) 0 (fun i => i ≤ l.length ∧ l.take i = q.take i) ⟨Nat.zero_le _, by simp⟩ (Weak.meets ?_) ?_
    · simp (maxSteps := 4000000) only [go_sem, Nat.reduceAdd, Nat.reduceSub, Nat.reduceMul, Nat.reduceEqDiff, Nat.reduceLeDiff, Nat.reduceLT, Nat.reduceBEq, Int.reduceLE, Int.reduceLT, Int.reduceToNat, Int.reduceNeg, Int.reduceAdd, Int.reduceSub, Int.reduceMul, ↓reduceIte]
      simp
    rintro x ⟨hx, hw⟩
    by_cases hxl : x < l.length
    · have hxi : (x : Int) < (l.length : Int) := by omega
      have hxi' : (x : Int) < (q.length : Int) := by omega
      obtain rfl := hk.resolve_right (fun h => by rw [h] at h1; simp at h1; rw [h1] at hxl; simp at hxl)
      by_cases h6 : l.getD x default = q.getD x default
      · have ht := take_eq_snoc hxl h1 hw h6
        simp (maxSteps := 4000000) only [hxi, hxi', h6, go_sem, Nat.reduceAdd, Nat.reduceSub, Nat.reduceMul, Nat.reduceEqDiff, Nat.reduceLeDiff, Nat.reduceLT, Nat.reduceBEq, Int.reduceLE, Int.reduceLT, Int.reduceToNat, Int.reduceNeg, Int.reduceAdd, Int.reduceSub, Int.reduceMul, ↓reduceIte]
        exact ⟨by omega, x + 1, ⟨by omega, ht⟩, by omega, by omega⟩
      · have hn : ¬ l = q := fun h => h6 (by rw [h])
        have e6 : (decide ((l.getD x default).num = (q.getD x default).num) && decide ((l.getD x default).text = (q.getD x default).text)) = false := by
          rw [Bool.eq_false_iff]; intro h
          simp only [Bool.and_eq_true, decide_eq_true_eq] at h
          apply h6
          cases h7 : l.getD x default; cases h8 : q.getD x default
          rw [h7, h8] at h; simp only at h; rw [h.1, h.2]
        simp (maxSteps := 4000000) only [hxi, hxi', e6, hn, go_sem, Nat.reduceAdd, Nat.reduceSub, Nat.reduceMul, Nat.reduceEqDiff, Nat.reduceLeDiff, Nat.reduceLT, Nat.reduceBEq, Int.reduceLE, Int.reduceLT, Int.reduceToNat, Int.reduceNeg, Int.reduceAdd, Int.reduceSub, Int.reduceMul, ↓reduceIte]
    have hxi : ¬ (x : Int) < (l.length : Int) := by omega
    obtain rfl : x = l.length := by omega
    rw [List.take_length, h1, List.take_length] at hw
    subst hw
    simp (maxSteps := 4000000) only [hxi, go_sem, Nat.reduceAdd, Nat.reduceSub, Nat.reduceMul, Nat.reduceEqDiff, Nat.reduceLeDiff, Nat.reduceLT, Nat.reduceBEq, Int.reduceLE, Int.reduceLT, Int.reduceToNat, Int.reduceNeg, Int.reduceAdd, Int.reduceSub, Int.reduceMul, ↓reduceIte]

def cloneRG_enc : (List Rec) × (Bool) → List V := fun ⟨ws, f⟩ => [.c (.s (.list 2 (encs recE ws) f))]
theorem cloneRG_inj : ∀ x y, cloneRG_enc x = cloneRG_enc y → x = y := by
  rintro ⟨ws, f⟩ ⟨ws2, f2⟩ h
  simp only [cloneRG_enc, List.cons.injEq, V.c.injEq, V.agg.injEq, C.s.injEq, S.list.injEq, S.str.injEq, S.int.injEq, S.bool.injEq, S.fn.injEq, S.cref.injEq, strE_inj, true_and, and_true, recE_inj] at h
  simp_all
noncomputable def cloneRG : List V → Option (Nat × List (List S)) := specE cloneRG_enc (fun ⟨ws, f⟩ => ws.length < 4000000) (fun ⟨ws, f⟩ => (2, encs recE ws))
theorem cloneRG_eq {ws : List Rec} {f : Bool} [Decidable (ws.length < 4000000)] : cloneRG [.c (.s (.list 2 (encs recE ws) f))] = if ws.length < 4000000 then some ((2, encs recE ws)) else none := specE_eq cloneRG_inj (ws, f)
theorem cloneRG_callf {ws : List Rec} {f : Bool} {m : Nat → Option Ab.Obj} {locs : List Nat} {d : Nat} {K : V → (Nat → Option Ab.Obj) → Prop} : callF cloneRG (some [.c (.s (.list 2 (encs recE ws) f))]) m locs d K = ((ws.length < 4000000) ∧ m d = none ∧ K (.c (.own d ( encs recE ws).length)) (upd (setAll m (sealL m locs)) d (some (.row 2 ( encs recE ws))))) := by
  have := Classical.propDecidable (ws.length < 4000000)
  exact callF_of cloneRG_eq
attribute [go_sem] cloneRG_callf

def sc_slices_Clone_logRecord : SC := .seq (.reg [⟨some 2, .mv, [.k (.c (.s (.list 0 [] true)))], none⟩]) (.seq (.seq (.reg [⟨some 3, .mv, [.t 0], none⟩,
⟨some 4, .isNil false, [.t 3], none⟩]) (.cond (.t 4) (.seq (.reg [⟨some 2, .mv, [.k (.c (.s (.list 0 [] true)))], none⟩]) (.ret)) (.skip))) (.seq (.reg [⟨some 5, .bslice 2 0 [.int .i64 0, .str []] [], [], none⟩,
⟨some 6, .mv, [.t 0], none⟩,
⟨some 7, .append false 2 24, [.t 5, .t 6], none⟩,
⟨some 2, .mv, [.t 7], none⟩]) (.ret)))
noncomputable def G_slices_Clone_logRecord : FuncId → Ab.Spec := noS
theorem G_slices_Clone_logRecord_ok : ∀ f, Contract Try.prog f (G_slices_Clone_logRecord f) := (noS_ok _)
set_option maxHeartbeats 16000000 in
set_option maxRecDepth 1000000 in
set_option linter.unusedSimpArgs false in
set_option linter.unusedVariables false in
theorem contract_slices_Clone_logRecord : Contract Try.prog 85 (fresh cloneRG) := by
  have hb : ∃ c, Try.f85.body = some c ∧ codeOk 8 c = true ∧ cCode Try.prog c = sc_slices_Clone_logRecord := ⟨_, rfl, by kernel_rfl, by kernel_rfl⟩
  obtain ⟨c, hb1, hb2, hb3⟩ := hb
  refine contract_of (n := 1) G_slices_Clone_logRecord_ok hB hD Try.func85 hb1 (by kernel_rfl) hb2 hb3 (rs := [.tmp 2]) (by kernel_rfl) (by decide) ?_ ?_
  · intro args x h
    obtain ⟨y, hy, -⟩ := Option.map_eq_some_iff.1 h
    obtain ⟨⟨ws, f⟩, rfl, -⟩ := specE_some hy
    rfl
  · intro args r hr
    obtain ⟨y, hy, rfl⟩ := Option.map_eq_some_iff.1 hr
    obtain ⟨⟨ws, f⟩, rfl, hc, rfl⟩ := specE_some hy
    clear hr hy
    have hc : ws.length < 4000000 := hc
    change awp _ _ (postQ _ (.fresh ((2, encs recE ws)).1 ((2, encs recE ws)).2)) _
    unfold cloneRG_enc sc_slices_Clone_logRecord
    by_cases h : ws = []
    · subst h
      simp +contextual (maxSteps := 4000000) only [go_sem, Nat.reduceAdd, Nat.reduceSub, Nat.reduceMul, Nat.reduceEqDiff, Nat.reduceLeDiff, Nat.reduceLT, Nat.reduceBEq, Int.reduceLE, Int.reduceLT, Int.reduceToNat, Int.reduceNeg, Int.reduceAdd, Int.reduceSub, Int.reduceMul, ↓reduceIte]
    · simp +contextual (maxSteps := 4000000) only [h, go_sem, Nat.reduceAdd, Nat.reduceSub, Nat.reduceMul, Nat.reduceEqDiff, Nat.reduceLeDiff, Nat.reduceLT, Nat.reduceBEq, Int.reduceLE, Int.reduceLT, Int.reduceToNat, Int.reduceNeg, Int.reduceAdd, Int.reduceSub, Int.reduceMul, ↓reduceIte]
      omega

def newestG_enc : (List Rec) × (Bool) × (Int) → List V := fun ⟨l, f, n⟩ => [.c (.s (.list 2 (encs recE l) f)), .c (.s (.int .i64 n))]
theorem newestG_inj : ∀ x y, newestG_enc x = newestG_enc y → x = y := by
  rintro ⟨l, f, n⟩ ⟨l2, f2, n2⟩ h
  simp only [newestG_enc, List.cons.injEq, V.c.injEq, V.agg.injEq, C.s.injEq, S.list.injEq, S.str.injEq, S.int.injEq, S.bool.injEq, S.fn.injEq, S.cref.injEq, strE_inj, true_and, and_true, recE_inj] at h
  simp_all
noncomputable def newestG : List V → Option (Nat × List (List S)) := specE newestG_enc (fun ⟨l, f, n⟩ => l.length < 4000000 ∧ 0 ≤ n ∧ n < 4000000) (fun ⟨l, f, n⟩ => (2, encs recE (newestL l n.toNat)))
theorem newestG_eq {l : List Rec} {f : Bool} {n : Int} [Decidable (l.length < 4000000 ∧ 0 ≤ n ∧ n < 4000000)] : newestG [.c (.s (.list 2 (encs recE l) f)), .c (.s (.int .i64 n))] = if l.length < 4000000 ∧ 0 ≤ n ∧ n < 4000000 then some ((2, encs recE (newestL l n.toNat))) else none := specE_eq newestG_inj (l, f, n)
theorem newestG_callf {l : List Rec} {f : Bool} {n : Int} {m : Nat → Option Ab.Obj} {locs : List Nat} {d : Nat} {K : V → (Nat → Option Ab.Obj) → Prop} : callF newestG (some [.c (.s (.list 2 (encs recE l) f)), .c (.s (.int .i64 n))]) m locs d K = ((l.length < 4000000 ∧ 0 ≤ n ∧ n < 4000000) ∧ m d = none ∧ K (.c (.own d ( encs recE (newestL l n.toNat)).length)) (upd (setAll m (sealL m locs)) d (some (.row 2 ( encs recE (newestL l n.toNat)))))) := by
  have := Classical.propDecidable (l.length < 4000000 ∧ 0 ≤ n ∧ n < 4000000)
  exact callF_of newestG_eq
attribute [go_sem] newestG_callf

def sc_keep_newest : SC := .seq (.reg [⟨some 4, .mv, [.k (.c (.s (.list 0 [] true)))], none⟩]) (.seq (.reg [⟨some 5, .mv, [.t 0], none⟩,
⟨some 6, .mv, [.t 0], none⟩,
⟨some 7, .len false, [.t 6], none⟩,
⟨some 8, .mv, [.t 1], none⟩,
⟨some 9, .bin .sub, [.t 7, .t 8], none⟩,
⟨some 10, .mnx true, [.t 9, .k (.c (.s (.int .i64 0)))], none⟩,
⟨some 11, .slcL 2 true false false, [.t 5, .t 10], none⟩,
⟨some 12, .call 85, [.t 11], none⟩,
⟨some 4, .mv, [.t 12], none⟩]) (.ret))
noncomputable def G_keep_newest : FuncId → Ab.Spec := addS (noS) 85 (fresh cloneRG)
theorem G_keep_newest_ok : ∀ f, Contract Try.prog f (G_keep_newest f) := (addS_ok (noS_ok _) contract_slices_Clone_logRecord)
theorem G65_85 : G_keep_newest 85 = fresh cloneRG := by simp [G_keep_newest, addS]
set_option maxHeartbeats 16000000 in
set_option maxRecDepth 1000000 in
set_option linter.unusedSimpArgs false in
set_option linter.unusedVariables false in
theorem contract_keep_newest : Contract Try.prog 65 (fresh newestG) := by
  have hb : ∃ c, Try.f65.body = some c ∧ codeOk 13 c = true ∧ cCode Try.prog c = sc_keep_newest := ⟨_, rfl, by kernel_rfl, by kernel_rfl⟩
  obtain ⟨c, hb1, hb2, hb3⟩ := hb
  refine contract_of (n := 2) G_keep_newest_ok hB hD Try.func65 hb1 (by kernel_rfl) hb2 hb3 (rs := [.tmp 4]) (by kernel_rfl) (by decide) ?_ ?_
  · intro args x h
    obtain ⟨y, hy, -⟩ := Option.map_eq_some_iff.1 h
    obtain ⟨⟨l, f, n⟩, rfl, -⟩ := specE_some hy
    rfl
  · intro args r hr
    obtain ⟨y, hy, rfl⟩ := Option.map_eq_some_iff.1 hr
    obtain ⟨⟨l, f, n⟩, rfl, hc, rfl⟩ := specE_some hy
    clear hr hy
    have hc : l.length < 4000000 ∧ 0 ≤ n ∧ n < 4000000 := hc
    change awp _ _ (postQ _ (.fresh ((2, encs recE (newestL l n.toNat))).1 ((2, encs recE (newestL l n.toNat))).2)) _
    unfold newestG_enc sc_keep_newest
    obtain ⟨hc, hn0, hn1⟩ := hc
    obtain ⟨k, rfl⟩ : ∃ k : Nat, n = k := ⟨n.toNat, by omega⟩
    have hd := newest_drop l k
    have hm : 0 ≤ max ((l.length : Int) - k) 0 ∧ max ((l.length : Int) - k) 0 ≤ l.length := by omega
    have hnl := newest_len l k
    simp (maxSteps := 4000000) only [↓exT_callf G65_85, hd, hm.1, hm.2, go_sem, Nat.reduceAdd, Nat.reduceSub, Nat.reduceMul, Nat.reduceEqDiff, Nat.reduceLeDiff, Nat.reduceLT, Nat.reduceBEq, Int.reduceLE, Int.reduceLT, Int.reduceToNat, Int.reduceNeg, Int.reduceAdd, Int.reduceSub, Int.reduceMul, ↓reduceIte]
    all_goals ((repeat' (first | with_reducible apply And.intro | intro)) <;> first | omega | (with_reducible rfl) | skip)

def NewestG_enc : (List Rec) × (Bool) × (Int) → List V := fun ⟨l, f, n⟩ => [.c (.s (.list 2 (encs recE l) f)), .c (.s (.int .i64 n))]
theorem NewestG_inj : ∀ x y, NewestG_enc x = NewestG_enc y → x = y := by
  rintro ⟨l, f, n⟩ ⟨l2, f2, n2⟩ h
  simp only [NewestG_enc, List.cons.injEq, V.c.injEq, V.agg.injEq, C.s.injEq, S.list.injEq, S.str.injEq, S.int.injEq, S.bool.injEq, S.fn.injEq, S.cref.injEq, strE_inj, true_and, and_true, recE_inj] at h
  simp_all
noncomputable def NewestG : List V → Option (Nat × List (List S)) := specE NewestG_enc (fun ⟨l, f, n⟩ => l.length < 4000000 ∧ 0 ≤ n ∧ n < 4000000) (fun ⟨l, f, n⟩ => (2, encs recE (newestL l n.toNat)))
theorem NewestG_eq {l : List Rec} {f : Bool} {n : Int} [Decidable (l.length < 4000000 ∧ 0 ≤ n ∧ n < 4000000)] : NewestG [.c (.s (.list 2 (encs recE l) f)), .c (.s (.int .i64 n))] = if l.length < 4000000 ∧ 0 ≤ n ∧ n < 4000000 then some ((2, encs recE (newestL l n.toNat))) else none := specE_eq NewestG_inj (l, f, n)
theorem NewestG_callf {l : List Rec} {f : Bool} {n : Int} {m : Nat → Option Ab.Obj} {locs : List Nat} {d : Nat} {K : V → (Nat → Option Ab.Obj) → Prop} : callF NewestG (some [.c (.s (.list 2 (encs recE l) f)), .c (.s (.int .i64 n))]) m locs d K = ((l.length < 4000000 ∧ 0 ≤ n ∧ n < 4000000) ∧ m d = none ∧ K (.c (.own d ( encs recE (newestL l n.toNat)).length)) (upd (setAll m (sealL m locs)) d (some (.row 2 ( encs recE (newestL l n.toNat)))))) := by
  have := Classical.propDecidable (l.length < 4000000 ∧ 0 ≤ n ∧ n < 4000000)
  exact callF_of NewestG_eq
attribute [go_sem] NewestG_callf

def sc_ref19_Newest : SC := .seq (.reg [⟨some 4, .mv, [.k (.c (.s (.list 0 [] true)))], none⟩]) (.seq (.reg [⟨some 5, .mv, [.k (.c (.s (.list 0 [] true)))], none⟩]) (.seq (.seq (.reg [⟨some 6, .mv, [.k (.c (.s (.int .i64 0)))], none⟩]) (.block 0 (.loop (.seq (.seq (.reg [⟨some 7, .mv, [.t 6], none⟩,
⟨some 8, .mv, [.t 0], none⟩,
⟨some 9, .len false, [.t 8], none⟩,
⟨some 10, .bin .lss, [.t 7, .t 9], none⟩]) (.cond (.t 10) (.skip) (.exit 0))) (.seq (.block 1 (.seq (.reg [⟨some 13, .mv, [.t 6], none⟩,
⟨some 14, .mv, [.t 0], none⟩,
⟨some 15, .len false, [.t 14], none⟩,
⟨some 16, .mv, [.t 1], none⟩,
⟨some 17, .bin .sub, [.t 15, .t 16], none⟩,
⟨some 18, .bin .geq, [.t 13, .t 17], none⟩]) (.cond (.t 18) (.reg [⟨some 19, .mv, [.t 5], none⟩,
⟨some 20, .mv, [.t 0], none⟩,
⟨some 21, .mv, [.t 6], none⟩,
⟨some 22, .iadr 2, [.t 20, .t 21], none⟩,
⟨some 23, .load 2 true, [.t 22], none⟩,
⟨some 24, .bslice 2 1 [.int .i64 0, .str []] [0], [.t 23], none⟩,
⟨some 25, .append false 2 24, [.t 19, .t 24], none⟩,
⟨some 5, .mv, [.t 25], none⟩]) (.skip)))) (.reg [⟨some 11, .mv, [.t 6], none⟩,
⟨some 12, .bin .add, [.t 11, .k (.c (.s (.int .i64 1)))], none⟩,
⟨some 6, .mv, [.t 12], none⟩])))))) (.seq (.reg [⟨some 26, .mv, [.t 5], none⟩,
⟨some 4, .mv, [.t 26], none⟩]) (.ret))))
noncomputable def G_ref19_Newest : FuncId → Ab.Spec := noS
theorem G_ref19_Newest_ok : ∀ f, Contract Try.prog f (G_ref19_Newest f) := (noS_ok _)
set_option maxHeartbeats 16000000 in
set_option maxRecDepth 1000000 in
set_option linter.unusedSimpArgs false in
set_option linter.unusedVariables false in
theorem contract_ref19_Newest : Contract Try.prog 32 (fresh NewestG) := by
  have hb : ∃ c, Try.f32.body = some c ∧ codeOk 27 c = true ∧ cCode Try.prog c = sc_ref19_Newest := ⟨_, rfl, by kernel_rfl, by kernel_rfl⟩
  obtain ⟨c, hb1, hb2, hb3⟩ := hb
  refine contract_of (n := 2) G_ref19_Newest_ok hB hD Try.func32 hb1 (by kernel_rfl) hb2 hb3 (rs := [.tmp 4]) (by kernel_rfl) (by decide) ?_ ?_
  · intro args x h
    obtain ⟨y, hy, -⟩ := Option.map_eq_some_iff.1 h
    obtain ⟨⟨l, f, n⟩, rfl, -⟩ := specE_some hy
    rfl
  · intro args r hr
    obtain ⟨y, hy, rfl⟩ := Option.map_eq_some_iff.1 hr
    obtain ⟨⟨l, f, n⟩, rfl, hc, rfl⟩ := specE_some hy
    clear hr hy
    have hc : l.length < 4000000 ∧ 0 ≤ n ∧ n < 4000000 := hc
    change awp _ _ (postQ _ (.fresh ((2, encs recE (newestL l n.toNat))).1 ((2, encs recE (newestL l n.toNat))).2)) _
    unfold NewestG_enc sc_ref19_Newest
    obtain ⟨hc, hn0, hn1⟩ := hc
    obtain ⟨k, rfl⟩ : ∃ k : Nat, n = k := ⟨n.toNat, by omega⟩
    simp (maxSteps := 4000000) only [go_sem, Nat.reduceAdd, Nat.reduceSub, Nat.reduceMul, Nat.reduceEqDiff, Nat.reduceLeDiff, Nat.reduceLT, Nat.reduceBEq, Int.reduceLE, Int.reduceLT, Int.reduceToNat, Int.reduceNeg, Int.reduceAdd, Int.reduceSub, Int.reduceMul, ↓reduceIte]
    refine awp_loopM (α := Nat) (fun i => [(0, .c (.s (.list 2 (encs recE l) f))), (1, .c (.s (.int .i64 k))), (5, .c (.own 5 ((l.take i).drop (l.length - k)).length)), (6, .c (.s (.int .i64 i)))])
      (fun i => [(5, .row 2 (encs recE ((l.take i).drop (l.length - k))))]) (fun i => l.length - i) 0 (fun i => i ≤ l.length) (Nat.zero_le _) (Weak.trans (Weak.nilSlot 5 5 2 rfl rfl) (Weak.meets ?_)) ?_
    · simp (maxSteps := 4000000) only [go_sem, Nat.reduceAdd, Nat.reduceSub, Nat.reduceMul, Nat.reduceEqDiff, Nat.reduceLeDiff, Nat.reduceLT, Nat.reduceBEq, Int.reduceLE, Int.reduceLT, Int.reduceToNat, Int.reduceNeg, Int.reduceAdd, Int.reduceSub, Int.reduceMul, ↓reduceIte]
      simp [encs]
    intro x hx
    have hal : ((l.take x).drop (l.length - k)).length ≤ l.length := by simp; omega
    by_cases hxl : x < l.length
    · have hxi : (x : Int) < (l.length : Int) := by omega
      have ht := newest_take (n := k) hxl
      by_cases hge : l.length - k ≤ x
      · have hge' : (l.length : Int) - k ≤ (x : Int) := by omega
        rw [if_pos hge] at ht
        simp (maxSteps := 4000000) only [hxi, hge', rec_snoc, go_sem, Nat.reduceAdd, Nat.reduceSub, Nat.reduceMul, Nat.reduceEqDiff, Nat.reduceLeDiff, Nat.reduceLT, Nat.reduceBEq, Int.reduceLE, Int.reduceLT, Int.reduceToNat, Int.reduceNeg, Int.reduceAdd, Int.reduceSub, Int.reduceMul, ↓reduceIte]
        rw [← ht]
        refine ⟨by omega, by omega, by omega, x + 1, by omega, by omega, ⟨by rw [ht]; simp, by omega⟩, rfl⟩
      · have hge' : ¬ (l.length : Int) - k ≤ (x : Int) := by omega
        rw [if_neg hge] at ht
        simp (maxSteps := 4000000) only [hxi, hge', go_sem, Nat.reduceAdd, Nat.reduceSub, Nat.reduceMul, Nat.reduceEqDiff, Nat.reduceLeDiff, Nat.reduceLT, Nat.reduceBEq, Int.reduceLE, Int.reduceLT, Int.reduceToNat, Int.reduceNeg, Int.reduceAdd, Int.reduceSub, Int.reduceMul, ↓reduceIte]
        rw [← ht]
        refine ⟨by omega, by omega, x + 1, by omega, by omega, ⟨by rw [ht], by omega⟩, rfl⟩
    · have hxi : ¬ (x : Int) < (l.length : Int) := by omega
      obtain rfl : x = l.length := by omega
      rw [List.take_length]
      simp (maxSteps := 4000000) only [hxi, go_sem, Nat.reduceAdd, Nat.reduceSub, Nat.reduceMul, Nat.reduceEqDiff, Nat.reduceLeDiff, Nat.reduceLT, Nat.reduceBEq, Int.reduceLE, Int.reduceLT, Int.reduceToNat, Int.reduceNeg, Int.reduceAdd, Int.reduceSub, Int.reduceMul, ↓reduceIte]
      simp [newestL]

def histG_enc : (List Bs) × (List Wr) × (Bool) × (Bool) → List V := fun ⟨ss, cs, f, g⟩ => [.agg [.s (.list 1 (encs strE ss) f), .s (.list 2 (encs wrE cs) g)]]
theorem histG_inj : ∀ x y, histG_enc x = histG_enc y → x = y := by
  rintro ⟨ss, cs, f, g⟩ ⟨ss2, cs2, f2, g2⟩ h
  simp only [histG_enc, List.cons.injEq, V.c.injEq, V.agg.injEq, C.s.injEq, S.list.injEq, S.str.injEq, S.int.injEq, S.bool.injEq, S.fn.injEq, S.cref.injEq, strE_inj, true_and, and_true, wrE_inj] at h
  simp_all
noncomputable def histG : List V → Option (V) := specE histG_enc (fun ⟨ss, cs, f, g⟩ => ss.length < 4000000 ∧ cs.length < 4000000) (fun ⟨ss, cs, f, g⟩ => .tup [.inl (.s (.list 2 (encs recE (histD ⟨ss, cs⟩).1) false)), .inl (.s (.int .i64 (histD ⟨ss, cs⟩).2))])
theorem histG_eq {ss : List Bs} {cs : List Wr} {f : Bool} {g : Bool} [Decidable (ss.length < 4000000 ∧ cs.length < 4000000)] : histG [.agg [.s (.list 1 (encs strE ss) f), .s (.list 2 (encs wrE cs) g)]] = if ss.length < 4000000 ∧ cs.length < 4000000 then some (.tup [.inl (.s (.list 2 (encs recE (histD ⟨ss, cs⟩).1) false)), .inl (.s (.int .i64 (histD ⟨ss, cs⟩).2))]) else none := specE_eq histG_inj (ss, cs, f, g)
theorem histG_call {ss : List Bs} {cs : List Wr} {f : Bool} {g : Bool} {gt : Bool} {K : V → Prop} : callE histG [.agg [.s (.list 1 (encs strE ss) f), .s (.list 2 (encs wrE cs) g)]] gt K = ((gt = true → ss.length < 4000000 ∧ cs.length < 4000000) ∧ bindV (ifV gt (.tup [.inl (.s (.list 2 (encs recE (histD ⟨ss, cs⟩).1) false)), .inl (.s (.int .i64 (histD ⟨ss, cs⟩).2))])) K) := by
  have := Classical.propDecidable (ss.length < 4000000 ∧ cs.length < 4000000)
  exact callE_of histG_eq
theorem histG_callo {ss : List Bs} {cs : List Wr} {f : Bool} {g : Bool} {m : Nat → Option Ab.Obj} {locs : List Nat} {K : V → (Nat → Option Ab.Obj) → Prop} : callO histG (some [.agg [.s (.list 1 (encs strE ss) f), .s (.list 2 (encs wrE cs) g)]]) m locs K = ((ss.length < 4000000 ∧ cs.length < 4000000) ∧ K (.tup [.inl (.s (.list 2 (encs recE (histD ⟨ss, cs⟩).1) false)), .inl (.s (.int .i64 (histD ⟨ss, cs⟩).2))]) (sealW m locs (.tup [.inl (.s (.list 2 (encs recE (histD ⟨ss, cs⟩).1) false)), .inl (.s (.int .i64 (histD ⟨ss, cs⟩).2))]))) := by
  have := Classical.propDecidable (ss.length < 4000000 ∧ cs.length < 4000000)
  exact callO_of histG_eq
attribute [go_sem] histG_call histG_callo

def sc_keep_History : SC := .seq (.reg [⟨some 1, .box 2, [.t 0], none⟩,
⟨some 2, .mv, [.k (.c (.s (.list 0 [] true)))], none⟩,
⟨some 3, .mv, [.k (.c (.s (.int .i64 0)))], none⟩]) (.seq (.reg [⟨some 7, .load 2 true, [.t 1], none⟩,
⟨some 8, .call 16, [.t 7], none⟩,
⟨some 6, .mv, [.t 8], none⟩,
⟨some 9, .ext 0, [.t 6], none⟩,
⟨some 10, .ext 1, [.t 6], none⟩,
⟨some 4, .alloc [.int .i64 0, .list 0 [] true, .int .i64 0], [], none⟩,
⟨none, .store 3 true, [.t 4, .t 9], none⟩,
⟨some 5, .mv, [.t 10], none⟩]) (.seq (.seq (.reg [⟨some 11, .mv, [.t 5], none⟩,
⟨some 12, .bin .neq, [.t 11, .k (.c (.s (.int .i64 0)))], none⟩]) (.cond (.t 12) (.seq (.reg [⟨some 13, .mv, [.t 5], none⟩,
⟨some 2, .mv, [.k (.c (.s (.list 0 [] true)))], none⟩,
⟨some 3, .mv, [.t 13], none⟩]) (.ret)) (.skip))) (.seq (.reg [⟨some 14, .fadr 1, [.t 4], none⟩,
⟨some 15, .load 1 false, [.t 14], none⟩,
⟨some 16, .call 65, [.t 15, .k (.c (.s (.int .i64 5)))], none⟩,
⟨some 2, .mv, [.t 16], none⟩,
⟨some 3, .mv, [.k (.c (.s (.int .i64 0)))], none⟩]) (.ret))))
noncomputable def G_keep_History : FuncId → Ab.Spec := addS (addS (noS) 16 (plain scanG)) 65 (fresh newestG)
theorem G_keep_History_ok : ∀ f, Contract Try.prog f (G_keep_History f) := (addS_ok (addS_ok (noS_ok _) contract_log_Scan) contract_keep_newest)
theorem G31_16 : G_keep_History 16 = plain scanG := by simp [G_keep_History, addS]
theorem G31_65 : G_keep_History 65 = fresh newestG := by simp [G_keep_History, addS]
set_option maxHeartbeats 16000000 in
set_option maxRecDepth 1000000 in
set_option linter.unusedSimpArgs false in
set_option linter.unusedVariables false in
theorem contract_keep_History : Contract Try.prog 31 (plain histG) := by
  have hb : ∃ c, Try.f31.body = some c ∧ codeOk 17 c = true ∧ cCode Try.prog c = sc_keep_History := ⟨_, rfl, by kernel_rfl, by kernel_rfl⟩
  obtain ⟨c, hb1, hb2, hb3⟩ := hb
  refine contract_of (n := 1) G_keep_History_ok hB hD Try.func31 hb1 (by kernel_rfl) hb2 hb3 (rs := [.tmp 2, .tmp 3]) (by kernel_rfl) (by decide) ?_ ?_
  · intro args x h
    obtain ⟨y, hy, -⟩ := Option.map_eq_some_iff.1 h
    obtain ⟨⟨ss, cs, f, g⟩, rfl, -⟩ := specE_some hy
    rfl
  · intro args r hr
    obtain ⟨y, hy, rfl⟩ := Option.map_eq_some_iff.1 hr
    obtain ⟨⟨ss, cs, f, g⟩, rfl, hc, rfl⟩ := specE_some hy
    clear hr hy
    have hc : ss.length < 4000000 ∧ cs.length < 4000000 := hc
    change awp _ _ (postQ _ (.v (.tup [.inl (.s (.list 2 (encs recE (histD ⟨ss, cs⟩).1) false)), .inl (.s (.int .i64 (histD ⟨ss, cs⟩).2))]))) _
    unfold histG_enc sc_keep_History
    obtain ⟨c1, c2⟩ := hc
    unfold histD
    by_cases he : (scanD ⟨ss, cs⟩).2 = 0
    case neg =>
      rw [if_pos he]
      simp (maxSteps := 4000000) only [↓exT_call G31_16, ↓exT_callo G31_16, ↓exT_calloG G31_16, ↓exT_callf G31_65, c1, c2, he, go_sem, Nat.reduceAdd, Nat.reduceSub, Nat.reduceMul, Nat.reduceEqDiff, Nat.reduceLeDiff, Nat.reduceLT, Nat.reduceBEq, Int.reduceLE, Int.reduceLT, Int.reduceToNat, Int.reduceNeg, Int.reduceAdd, Int.reduceSub, Int.reduceMul, ↓reduceIte]
    obtain ⟨k1, k2, k3, k4, k5, k6⟩ := scan_ok he
    have hff := from_fit (n := ss.length) (g := (scanD ⟨ss, cs⟩).1.gen) k2
    have q2 := ((right_iff _).1 k1).2.1
    simp only at k2 k5 k6 q2
    have hrl : (scanD ⟨ss, cs⟩).1.recs.length < 4000000 := by omega
    have h5 : (5 : Int).toNat = 5 := rfl
    rw [if_neg (by simp [he])]
    simp (maxSteps := 4000000) only [↓exT_call G31_16, ↓exT_callo G31_16, ↓exT_calloG G31_16, ↓exT_callf G31_65, c1, c2, he, hrl, h5, go_sem, Nat.reduceAdd, Nat.reduceSub, Nat.reduceMul, Nat.reduceEqDiff, Nat.reduceLeDiff, Nat.reduceLT, Nat.reduceBEq, Int.reduceLE, Int.reduceLT, Int.reduceToNat, Int.reduceNeg, Int.reduceAdd, Int.reduceSub, Int.reduceMul, ↓reduceIte]
    all_goals ((repeat' (first | with_reducible apply And.intro | intro)) <;> first | omega | (with_reducible rfl) | skip)

end Go.Proofs.Ytniioedflegdkaa

/- The functions of package keep: a push, a save. -/
namespace Go.Proofs.Ytniioedflegdkaa
open Go Go.Ab Go.Proofs Go.Fs
def pushG_enc : (List Bs) × (List Wr) × (Bool) × (Bool) × (Bs) → List V := fun ⟨ss, cs, f, g, t⟩ => [.agg [.s (.list 1 (encs strE ss) f), .s (.list 2 (encs wrE cs) g)], .c (.s (.str t))]
theorem pushG_inj : ∀ x y, pushG_enc x = pushG_enc y → x = y := by
  rintro ⟨ss, cs, f, g, t⟩ ⟨ss2, cs2, f2, g2, t2⟩ h
  simp only [pushG_enc, List.cons.injEq, V.c.injEq, V.agg.injEq, C.s.injEq, S.list.injEq, S.str.injEq, S.int.injEq, S.bool.injEq, S.fn.injEq, S.cref.injEq, strE_inj, true_and, and_true, wrE_inj] at h
  simp_all
noncomputable def pushG : List V → Option (V) := specE pushG_enc (fun ⟨ss, cs, f, g, t⟩ => ss.length < 4000000 ∧ cs.length < 4000000) (fun ⟨ss, cs, f, g, t⟩ => .tup [.inl (.s (.list 3 (encs opE (pushD ⟨ss, cs⟩ t).1) false)), .inl (.s (.int .i64 (pushD ⟨ss, cs⟩ t).2.1)), .inl (.s (.int .i64 (pushD ⟨ss, cs⟩ t).2.2))])
theorem pushG_eq {ss : List Bs} {cs : List Wr} {f : Bool} {g : Bool} {t : Bs} [Decidable (ss.length < 4000000 ∧ cs.length < 4000000)] : pushG [.agg [.s (.list 1 (encs strE ss) f), .s (.list 2 (encs wrE cs) g)], .c (.s (.str t))] = if ss.length < 4000000 ∧ cs.length < 4000000 then some (.tup [.inl (.s (.list 3 (encs opE (pushD ⟨ss, cs⟩ t).1) false)), .inl (.s (.int .i64 (pushD ⟨ss, cs⟩ t).2.1)), .inl (.s (.int .i64 (pushD ⟨ss, cs⟩ t).2.2))]) else none := specE_eq pushG_inj (ss, cs, f, g, t)
theorem pushG_call {ss : List Bs} {cs : List Wr} {f : Bool} {g : Bool} {t : Bs} {gt : Bool} {K : V → Prop} : callE pushG [.agg [.s (.list 1 (encs strE ss) f), .s (.list 2 (encs wrE cs) g)], .c (.s (.str t))] gt K = ((gt = true → ss.length < 4000000 ∧ cs.length < 4000000) ∧ bindV (ifV gt (.tup [.inl (.s (.list 3 (encs opE (pushD ⟨ss, cs⟩ t).1) false)), .inl (.s (.int .i64 (pushD ⟨ss, cs⟩ t).2.1)), .inl (.s (.int .i64 (pushD ⟨ss, cs⟩ t).2.2))])) K) := by
  have := Classical.propDecidable (ss.length < 4000000 ∧ cs.length < 4000000)
  exact callE_of pushG_eq
theorem pushG_callo {ss : List Bs} {cs : List Wr} {f : Bool} {g : Bool} {t : Bs} {m : Nat → Option Ab.Obj} {locs : List Nat} {K : V → (Nat → Option Ab.Obj) → Prop} : callO pushG (some [.agg [.s (.list 1 (encs strE ss) f), .s (.list 2 (encs wrE cs) g)], .c (.s (.str t))]) m locs K = ((ss.length < 4000000 ∧ cs.length < 4000000) ∧ K (.tup [.inl (.s (.list 3 (encs opE (pushD ⟨ss, cs⟩ t).1) false)), .inl (.s (.int .i64 (pushD ⟨ss, cs⟩ t).2.1)), .inl (.s (.int .i64 (pushD ⟨ss, cs⟩ t).2.2))]) (sealW m locs (.tup [.inl (.s (.list 3 (encs opE (pushD ⟨ss, cs⟩ t).1) false)), .inl (.s (.int .i64 (pushD ⟨ss, cs⟩ t).2.1)), .inl (.s (.int .i64 (pushD ⟨ss, cs⟩ t).2.2))]))) := by
  have := Classical.propDecidable (ss.length < 4000000 ∧ cs.length < 4000000)
  exact callO_of pushG_eq
attribute [go_sem] pushG_call pushG_callo

def sc_keep_Push : SC := .seq (.reg [⟨some 2, .box 2, [.t 0], none⟩,
⟨some 4, .mv, [.k (.c (.s (.list 0 [] true)))], none⟩,
⟨some 5, .mv, [.k (.c (.s (.int .i64 0)))], none⟩,
⟨some 6, .mv, [.k (.c (.s (.int .i64 0)))], none⟩]) (.seq (.reg [⟨some 13, .load 2 true, [.t 2], none⟩,
⟨some 14, .call 16, [.t 13], none⟩,
⟨some 12, .mv, [.t 14], none⟩,
⟨some 15, .ext 0, [.t 12], none⟩,
⟨some 16, .ext 1, [.t 12], none⟩,
⟨some 7, .alloc [.int .i64 0, .list 0 [] true, .int .i64 0], [], none⟩,
⟨none, .store 3 true, [.t 7, .t 15], none⟩,
⟨some 8, .mv, [.t 16], none⟩]) (.seq (.seq (.reg [⟨some 17, .mv, [.t 8], none⟩,
⟨some 18, .bin .neq, [.t 17, .k (.c (.s (.int .i64 0)))], none⟩]) (.cond (.t 18) (.seq (.reg [⟨some 19, .mv, [.t 8], none⟩,
⟨some 4, .mv, [.k (.c (.s (.list 0 [] true)))], none⟩,
⟨some 5, .mv, [.k (.c (.s (.int .i64 0)))], none⟩,
⟨some 6, .mv, [.t 19], none⟩]) (.ret)) (.skip))) (.seq (.reg [⟨some 9, .mv, [.k (.c (.s (.int .i64 1)))], none⟩]) (.seq (.seq (.reg [⟨some 20, .fadr 1, [.t 7], none⟩,
⟨some 21, .load 1 false, [.t 20], none⟩,
⟨some 22, .len false, [.t 21], none⟩,
⟨some 10, .mv, [.t 22], none⟩]) (.seq (.reg [⟨some 23, .mv, [.t 10], none⟩,
⟨some 24, .bin .gtr, [.t 23, .k (.c (.s (.int .i64 0)))], none⟩]) (.cond (.t 24) (.reg [⟨some 25, .fadr 1, [.t 7], none⟩,
⟨some 26, .load 1 false, [.t 25], none⟩,
⟨some 27, .mv, [.t 10], none⟩,
⟨some 28, .bin .sub, [.t 27, .k (.c (.s (.int .i64 1)))], none⟩,
⟨some 29, .iadr 2, [.t 26, .t 28], none⟩,
⟨some 30, .fadr 0, [.t 29], none⟩,
⟨some 31, .load 1 false, [.t 30], none⟩,
⟨some 32, .bin .add, [.t 31, .k (.c (.s (.int .i64 1)))], none⟩,
⟨some 9, .mv, [.t 32], none⟩]) (.skip)))) (.seq (.reg [⟨some 34, .load 2 true, [.t 2], none⟩,
⟨some 35, .mv, [.t 1], none⟩,
⟨some 36, .call 20, [.t 34, .t 35], none⟩,
⟨some 33, .mv, [.t 36], none⟩,
⟨some 37, .ext 0, [.t 33], none⟩,
⟨some 38, .ext 1, [.t 33], none⟩,
⟨some 11, .mv, [.t 37], none⟩,
⟨some 8, .mv, [.t 38], none⟩]) (.seq (.seq (.reg [⟨some 39, .mv, [.t 8], none⟩,
⟨some 40, .bin .eql, [.t 39, .k (.c (.s (.int .i64 10)))], none⟩]) (.cond (.t 40) (.regD [⟨some 42, .load 2 true, [.t 2], none⟩,
⟨some 43, .fadr 1, [.t 7], none⟩,
⟨some 44, .load 1 false, [.t 43], none⟩,
⟨some 45, .call 65, [.t 44, .k (.c (.s (.int .i64 4)))], none⟩,
⟨some 46, .mv, [.t 9], none⟩,
⟨some 47, .mv, [.t 1], none⟩,
⟨some 48, .build [.int .i64 0, .str []] [(0, 1), (1, 1)], [.t 46, .t 47], none⟩,
⟨some 49, .bslice 2 1 [.int .i64 0, .str []] [0], [.t 48], none⟩,
⟨some 50, .append false 2 24, [.t 45, .t 49], none⟩,
⟨some 51, .call 24, [.t 42, .t 50], none⟩,
⟨some 41, .mv, [.t 51], none⟩,
⟨some 52, .ext 0, [.t 41], none⟩,
⟨some 53, .ext 1, [.t 41], none⟩,
⟨some 11, .mv, [.t 52], none⟩,
⟨some 8, .mv, [.t 53], none⟩] [(0, 3), (0, 7), (1, 7), (2, 7), (3, 7), (0, 8)]) (.skip))) (.seq (.seq (.reg [⟨some 54, .mv, [.t 8], none⟩,
⟨some 55, .bin .neq, [.t 54, .k (.c (.s (.int .i64 0)))], none⟩]) (.cond (.t 55) (.seq (.reg [⟨some 56, .mv, [.t 8], none⟩,
⟨some 4, .mv, [.k (.c (.s (.list 0 [] true)))], none⟩,
⟨some 5, .mv, [.k (.c (.s (.int .i64 0)))], none⟩,
⟨some 6, .mv, [.t 56], none⟩]) (.ret)) (.skip))) (.seq (.reg [⟨some 57, .mv, [.t 11], none⟩,
⟨some 58, .mv, [.t 9], none⟩,
⟨some 4, .mv, [.t 57], none⟩,
⟨some 5, .mv, [.t 58], none⟩,
⟨some 6, .mv, [.k (.c (.s (.int .i64 0)))], none⟩]) (.ret)))))))))
noncomputable def G_keep_Push : FuncId → Ab.Spec := addS (addS (addS (addS (noS) 16 (plain scanG)) 20 (plain appendG)) 65 (fresh newestG)) 24 (plain renewG)
theorem G_keep_Push_ok : ∀ f, Contract Try.prog f (G_keep_Push f) := (addS_ok (addS_ok (addS_ok (addS_ok (noS_ok _) contract_log_Scan) contract_log_Append) contract_keep_newest) contract_log_Renew)
theorem G33_16 : G_keep_Push 16 = plain scanG := by simp [G_keep_Push, addS]
theorem G33_20 : G_keep_Push 20 = plain appendG := by simp [G_keep_Push, addS]
theorem G33_65 : G_keep_Push 65 = fresh newestG := by simp [G_keep_Push, addS]
theorem G33_24 : G_keep_Push 24 = plain renewG := by simp [G_keep_Push, addS]
set_option maxHeartbeats 16000000 in
set_option maxRecDepth 1000000 in
set_option linter.unusedSimpArgs false in
set_option linter.unusedVariables false in
theorem contract_keep_Push : Contract Try.prog 33 (plain pushG) := by
  have hb : ∃ c, Try.f33.body = some c ∧ codeOk 59 c = true ∧ cCode Try.prog c = sc_keep_Push := ⟨_, rfl, by kernel_rfl, by kernel_rfl⟩
  obtain ⟨c, hb1, hb2, hb3⟩ := hb
  refine contract_of (n := 2) G_keep_Push_ok hB hD Try.func33 hb1 (by kernel_rfl) hb2 hb3 (rs := [.tmp 4, .tmp 5, .tmp 6]) (by kernel_rfl) (by decide) ?_ ?_
  · intro args x h
    obtain ⟨y, hy, -⟩ := Option.map_eq_some_iff.1 h
    obtain ⟨⟨ss, cs, f, g, t⟩, rfl, -⟩ := specE_some hy
    rfl
  · intro args r hr
    obtain ⟨y, hy, rfl⟩ := Option.map_eq_some_iff.1 hr
    obtain ⟨⟨ss, cs, f, g, t⟩, rfl, hc, rfl⟩ := specE_some hy
    clear hr hy
    have hc : ss.length < 4000000 ∧ cs.length < 4000000 := hc
    change awp _ _ (postQ _ (.v (.tup [.inl (.s (.list 3 (encs opE (pushD ⟨ss, cs⟩ t).1) false)), .inl (.s (.int .i64 (pushD ⟨ss, cs⟩ t).2.1)), .inl (.s (.int .i64 (pushD ⟨ss, cs⟩ t).2.2))]))) _
    unfold pushG_enc sc_keep_Push
    obtain ⟨c1, c2⟩ := hc
    have hpd : pushD ⟨ss, cs⟩ t = if (scanD ⟨ss, cs⟩).2 ≠ 0 then ([], 0, (scanD ⟨ss, cs⟩).2)
      else if (appendD ⟨ss, cs⟩ t).2 = 10 then
        (if (renewD ⟨ss, cs⟩ (newestL (scanD ⟨ss, cs⟩).1.recs 4 ++ [nextRec (scanD ⟨ss, cs⟩).1.recs t])).2 ≠ 0 then ([], 0, (renewD ⟨ss, cs⟩ (newestL (scanD ⟨ss, cs⟩).1.recs 4 ++ [nextRec (scanD ⟨ss, cs⟩).1.recs t])).2)
         else ((renewD ⟨ss, cs⟩ (newestL (scanD ⟨ss, cs⟩).1.recs 4 ++ [nextRec (scanD ⟨ss, cs⟩).1.recs t])).1, lastNum (scanD ⟨ss, cs⟩).1.recs + 1, 0))
      else if (appendD ⟨ss, cs⟩ t).2 ≠ 0 then ([], 0, (appendD ⟨ss, cs⟩ t).2)
      else ((appendD ⟨ss, cs⟩ t).1, lastNum (scanD ⟨ss, cs⟩).1.recs + 1, 0) := rfl
    by_cases he : (scanD ⟨ss, cs⟩).2 = 0
    case neg =>
      rw [if_pos he] at hpd
      rw [hpd]
      simp (maxSteps := 4000000) only [↓exT_call G33_16, ↓exT_callo G33_16, ↓exT_calloG G33_16, ↓exT_call G33_20, ↓exT_callo G33_20, ↓exT_calloG G33_20, ↓exT_callf G33_65, ↓exT_call G33_24, ↓exT_callo G33_24, ↓exT_calloG G33_24, c1, c2, he, go_sem, Nat.reduceAdd, Nat.reduceSub, Nat.reduceMul, Nat.reduceEqDiff, Nat.reduceLeDiff, Nat.reduceLT, Nat.reduceBEq, Int.reduceLE, Int.reduceLT, Int.reduceToNat, Int.reduceNeg, Int.reduceAdd, Int.reduceSub, Int.reduceMul, ↓reduceIte]
    rw [if_neg (by simp [he])] at hpd
    obtain ⟨k1, k2, k3, k4, k5, k6⟩ := scan_ok he
    have hff := from_fit (n := ss.length) (g := (scanD ⟨ss, cs⟩).1.gen) k2
    have q2 := ((right_iff _).1 k1).2.1
    simp only at k2 k5 k6 q2
    have hnx : nextRec (scanD ⟨ss, cs⟩).1.recs t = ⟨lastNum (scanD ⟨ss, cs⟩).1.recs + 1, t⟩ := rfl
    rw [hnx] at hpd
    generalize hrr : (scanD ⟨ss, cs⟩).1.recs = rs at *
    have hrl : rs.length < 4000000 := by omega
    have hln := lastNum_le fun r hr => (k4 r hr).1
    have hmn : maxNum = 2147483647 := rfl
    have hnum : (rs = [] ∧ lastNum rs + 1 = 1) ∨ (rs ≠ [] ∧ (rs.getD (rs.length - 1) default).num + 1 = lastNum rs + 1) := by
      by_cases h : rs = []
      · exact .inl ⟨h, by rw [h]; rfl⟩
      · exact .inr ⟨h, by rw [lastNum_ne h]⟩
    have hnl := newest_len rs 4
    have hn4 : (newestL rs 4 ++ [(⟨lastNum rs + 1, t⟩ : Rec)]).length < 4000000 := by rw [List.length_append]; simp; omega
    have h4 : (4 : Int).toNat = 4 := rfl
    have hb4 : ((newestL rs 4).length + 1) * 24 ≤ 140737488355328 := by omega
    generalize hap : appendD ⟨ss, cs⟩ t = AP at *
    generalize hrn : renewD ⟨ss, cs⟩ (newestL rs 4 ++ [(⟨lastNum rs + 1, t⟩ : Rec)]) = RN at *
    rcases hnum with ⟨h0, hN⟩ | ⟨h0, hN⟩
    · have hz : ¬ (0 : Int) < (rs.length : Int) := by rw [h0]; simp
      rw [hN] at hpd hrn hn4
      by_cases h10 : AP.2 = 10
      · rw [if_pos h10] at hpd
        by_cases hr0 : RN.2 = 0
        · rw [if_neg (by simp [hr0])] at hpd
          rw [hpd]
          simp (maxSteps := 4000000) only [↓exT_call G33_16, ↓exT_callo G33_16, ↓exT_calloG G33_16, ↓exT_call G33_20, ↓exT_callo G33_20, ↓exT_calloG G33_20, ↓exT_callf G33_65, ↓exT_call G33_24, ↓exT_callo G33_24, ↓exT_calloG G33_24, c1, c2, he, hrr, hrl, hz, hap, h10, h4, rec_snoc, hrn, hn4, hb4, hr0, go_sem, Nat.reduceAdd, Nat.reduceSub, Nat.reduceMul, Nat.reduceEqDiff, Nat.reduceLeDiff, Nat.reduceLT, Nat.reduceBEq, Int.reduceLE, Int.reduceLT, Int.reduceToNat, Int.reduceNeg, Int.reduceAdd, Int.reduceSub, Int.reduceMul, ↓reduceIte]
          all_goals ((repeat' (first | with_reducible apply And.intro | intro)) <;> first | omega | (with_reducible rfl) | skip)
        · rw [if_pos hr0] at hpd
          rw [hpd]
          simp (maxSteps := 4000000) only [↓exT_call G33_16, ↓exT_callo G33_16, ↓exT_calloG G33_16, ↓exT_call G33_20, ↓exT_callo G33_20, ↓exT_calloG G33_20, ↓exT_callf G33_65, ↓exT_call G33_24, ↓exT_callo G33_24, ↓exT_calloG G33_24, c1, c2, he, hrr, hrl, hz, hap, h10, h4, rec_snoc, hrn, hn4, hb4, hr0, go_sem, Nat.reduceAdd, Nat.reduceSub, Nat.reduceMul, Nat.reduceEqDiff, Nat.reduceLeDiff, Nat.reduceLT, Nat.reduceBEq, Int.reduceLE, Int.reduceLT, Int.reduceToNat, Int.reduceNeg, Int.reduceAdd, Int.reduceSub, Int.reduceMul, ↓reduceIte]
          all_goals ((repeat' (first | with_reducible apply And.intro | intro)) <;> first | omega | (with_reducible rfl) | skip)
      · rw [if_neg h10] at hpd
        by_cases ha0 : AP.2 = 0
        · rw [if_neg (by simp [ha0])] at hpd
          rw [hpd]
          have h10' : ¬ (0 : Int) = 10 := by omega
          simp (maxSteps := 4000000) only [↓exT_call G33_16, ↓exT_callo G33_16, ↓exT_calloG G33_16, ↓exT_call G33_20, ↓exT_callo G33_20, ↓exT_calloG G33_20, ↓exT_callf G33_65, ↓exT_call G33_24, ↓exT_callo G33_24, ↓exT_calloG G33_24, c1, c2, he, hrr, hrl, hz, hap, ha0, h10', go_sem, Nat.reduceAdd, Nat.reduceSub, Nat.reduceMul, Nat.reduceEqDiff, Nat.reduceLeDiff, Nat.reduceLT, Nat.reduceBEq, Int.reduceLE, Int.reduceLT, Int.reduceToNat, Int.reduceNeg, Int.reduceAdd, Int.reduceSub, Int.reduceMul, ↓reduceIte]
        · rw [if_pos ha0] at hpd
          rw [hpd]
          simp (maxSteps := 4000000) only [↓exT_call G33_16, ↓exT_callo G33_16, ↓exT_calloG G33_16, ↓exT_call G33_20, ↓exT_callo G33_20, ↓exT_calloG G33_20, ↓exT_callf G33_65, ↓exT_call G33_24, ↓exT_callo G33_24, ↓exT_calloG G33_24, c1, c2, he, hrr, hrl, hz, hap, h10, ha0, go_sem, Nat.reduceAdd, Nat.reduceSub, Nat.reduceMul, Nat.reduceEqDiff, Nat.reduceLeDiff, Nat.reduceLT, Nat.reduceBEq, Int.reduceLE, Int.reduceLT, Int.reduceToNat, Int.reduceNeg, Int.reduceAdd, Int.reduceSub, Int.reduceMul, ↓reduceIte]
    · have h0l : rs.length ≠ 0 := fun e => h0 (List.length_eq_zero_iff.1 e)
      have hz : (0 : Int) < (rs.length : Int) := by omega
      have hll := k4 _ (mem_getD (l := rs) (i := rs.length - 1) (by omega))
      have eix : ((rs.length : Int) - 1).toNat = rs.length - 1 := by omega
      have hge : (encs recE rs).getD (rs.length - 1) [] = recE (rs.getD (rs.length - 1) default) := encs_getN (by omega)
      have hix : (0 : Int) ≤ (rs.length : Int) - 1 ∧ (rs.length : Int) - 1 < (rs.length : Int) := by omega
      generalize hNN : lastNum rs + 1 = N at *
      by_cases h10 : AP.2 = 10
      · rw [if_pos h10] at hpd
        by_cases hr0 : RN.2 = 0
        · rw [if_neg (by simp [hr0])] at hpd
          rw [hpd]
          simp (maxSteps := 4000000) only [↓exT_call G33_16, ↓exT_callo G33_16, ↓exT_calloG G33_16, ↓exT_call G33_20, ↓exT_callo G33_20, ↓exT_calloG G33_20, ↓exT_callf G33_65, ↓exT_call G33_24, ↓exT_callo G33_24, ↓exT_calloG G33_24, c1, c2, he, hrr, hrl, hz, hix.1, hix.2, eix, hge, hN, hap, h10, h4, rec_snoc, hrn, hn4, hb4, hr0, go_sem, Nat.reduceAdd, Nat.reduceSub, Nat.reduceMul, Nat.reduceEqDiff, Nat.reduceLeDiff, Nat.reduceLT, Nat.reduceBEq, Int.reduceLE, Int.reduceLT, Int.reduceToNat, Int.reduceNeg, Int.reduceAdd, Int.reduceSub, Int.reduceMul, ↓reduceIte]
          all_goals ((repeat' (first | with_reducible apply And.intro | intro)) <;> first | omega | (with_reducible rfl) | skip)
        · rw [if_pos hr0] at hpd
          rw [hpd]
          simp (maxSteps := 4000000) only [↓exT_call G33_16, ↓exT_callo G33_16, ↓exT_calloG G33_16, ↓exT_call G33_20, ↓exT_callo G33_20, ↓exT_calloG G33_20, ↓exT_callf G33_65, ↓exT_call G33_24, ↓exT_callo G33_24, ↓exT_calloG G33_24, c1, c2, he, hrr, hrl, hz, hix.1, hix.2, eix, hge, hN, hap, h10, h4, rec_snoc, hrn, hn4, hb4, hr0, go_sem, Nat.reduceAdd, Nat.reduceSub, Nat.reduceMul, Nat.reduceEqDiff, Nat.reduceLeDiff, Nat.reduceLT, Nat.reduceBEq, Int.reduceLE, Int.reduceLT, Int.reduceToNat, Int.reduceNeg, Int.reduceAdd, Int.reduceSub, Int.reduceMul, ↓reduceIte]
          all_goals ((repeat' (first | with_reducible apply And.intro | intro)) <;> first | omega | (with_reducible rfl) | skip)
      · rw [if_neg h10] at hpd
        by_cases ha0 : AP.2 = 0
        · rw [if_neg (by simp [ha0])] at hpd
          rw [hpd]
          have h10' : ¬ (0 : Int) = 10 := by omega
          simp (maxSteps := 4000000) only [↓exT_call G33_16, ↓exT_callo G33_16, ↓exT_calloG G33_16, ↓exT_call G33_20, ↓exT_callo G33_20, ↓exT_calloG G33_20, ↓exT_callf G33_65, ↓exT_call G33_24, ↓exT_callo G33_24, ↓exT_calloG G33_24, c1, c2, he, hrr, hrl, hz, hix.1, hix.2, eix, hge, hN, hap, ha0, h10', go_sem, Nat.reduceAdd, Nat.reduceSub, Nat.reduceMul, Nat.reduceEqDiff, Nat.reduceLeDiff, Nat.reduceLT, Nat.reduceBEq, Int.reduceLE, Int.reduceLT, Int.reduceToNat, Int.reduceNeg, Int.reduceAdd, Int.reduceSub, Int.reduceMul, ↓reduceIte]
          all_goals ((repeat' (first | with_reducible apply And.intro | intro)) <;> first | omega | (with_reducible rfl) | skip)
        · rw [if_pos ha0] at hpd
          rw [hpd]
          simp (maxSteps := 4000000) only [↓exT_call G33_16, ↓exT_callo G33_16, ↓exT_calloG G33_16, ↓exT_call G33_20, ↓exT_callo G33_20, ↓exT_calloG G33_20, ↓exT_callf G33_65, ↓exT_call G33_24, ↓exT_callo G33_24, ↓exT_calloG G33_24, c1, c2, he, hrr, hrl, hz, hix.1, hix.2, eix, hge, hN, hap, h10, ha0, go_sem, Nat.reduceAdd, Nat.reduceSub, Nat.reduceMul, Nat.reduceEqDiff, Nat.reduceLeDiff, Nat.reduceLT, Nat.reduceBEq, Int.reduceLE, Int.reduceLT, Int.reduceToNat, Int.reduceNeg, Int.reduceAdd, Int.reduceSub, Int.reduceMul, ↓reduceIte]
          all_goals ((repeat' (first | with_reducible apply And.intro | intro)) <;> first | omega | (with_reducible rfl) | skip)

def saveG_enc : (List Bs) × (List Wr) × (Bool) × (Bool) × (Bs) → List V := fun ⟨ss, cs, f, g, t⟩ => [.agg [.s (.list 1 (encs strE ss) f), .s (.list 2 (encs wrE cs) g)], .c (.s (.str t))]
theorem saveG_inj : ∀ x y, saveG_enc x = saveG_enc y → x = y := by
  rintro ⟨ss, cs, f, g, t⟩ ⟨ss2, cs2, f2, g2, t2⟩ h
  simp only [saveG_enc, List.cons.injEq, V.c.injEq, V.agg.injEq, C.s.injEq, S.list.injEq, S.str.injEq, S.int.injEq, S.bool.injEq, S.fn.injEq, S.cref.injEq, strE_inj, true_and, and_true, wrE_inj] at h
  simp_all
noncomputable def saveG : List V → Option (V) := specE saveG_enc (fun ⟨ss, cs, f, g, t⟩ => ss.length < 4000000 ∧ cs.length < 4000000) (fun ⟨ss, cs, f, g, t⟩ => .tup [.inr [.s (.list 1 (encs strE ((saveD ⟨ss, cs⟩ t).1).sectors) false), .s (.list 2 (encs wrE ((saveD ⟨ss, cs⟩ t).1).cache) false)], .inl (.s (.int .i64 (saveD ⟨ss, cs⟩ t).2.1)), .inl (.s (.int .i64 (saveD ⟨ss, cs⟩ t).2.2))])
theorem saveG_eq {ss : List Bs} {cs : List Wr} {f : Bool} {g : Bool} {t : Bs} [Decidable (ss.length < 4000000 ∧ cs.length < 4000000)] : saveG [.agg [.s (.list 1 (encs strE ss) f), .s (.list 2 (encs wrE cs) g)], .c (.s (.str t))] = if ss.length < 4000000 ∧ cs.length < 4000000 then some (.tup [.inr [.s (.list 1 (encs strE ((saveD ⟨ss, cs⟩ t).1).sectors) false), .s (.list 2 (encs wrE ((saveD ⟨ss, cs⟩ t).1).cache) false)], .inl (.s (.int .i64 (saveD ⟨ss, cs⟩ t).2.1)), .inl (.s (.int .i64 (saveD ⟨ss, cs⟩ t).2.2))]) else none := specE_eq saveG_inj (ss, cs, f, g, t)
theorem saveG_call {ss : List Bs} {cs : List Wr} {f : Bool} {g : Bool} {t : Bs} {gt : Bool} {K : V → Prop} : callE saveG [.agg [.s (.list 1 (encs strE ss) f), .s (.list 2 (encs wrE cs) g)], .c (.s (.str t))] gt K = ((gt = true → ss.length < 4000000 ∧ cs.length < 4000000) ∧ bindV (ifV gt (.tup [.inr [.s (.list 1 (encs strE ((saveD ⟨ss, cs⟩ t).1).sectors) false), .s (.list 2 (encs wrE ((saveD ⟨ss, cs⟩ t).1).cache) false)], .inl (.s (.int .i64 (saveD ⟨ss, cs⟩ t).2.1)), .inl (.s (.int .i64 (saveD ⟨ss, cs⟩ t).2.2))])) K) := by
  have := Classical.propDecidable (ss.length < 4000000 ∧ cs.length < 4000000)
  exact callE_of saveG_eq
theorem saveG_callo {ss : List Bs} {cs : List Wr} {f : Bool} {g : Bool} {t : Bs} {m : Nat → Option Ab.Obj} {locs : List Nat} {K : V → (Nat → Option Ab.Obj) → Prop} : callO saveG (some [.agg [.s (.list 1 (encs strE ss) f), .s (.list 2 (encs wrE cs) g)], .c (.s (.str t))]) m locs K = ((ss.length < 4000000 ∧ cs.length < 4000000) ∧ K (.tup [.inr [.s (.list 1 (encs strE ((saveD ⟨ss, cs⟩ t).1).sectors) false), .s (.list 2 (encs wrE ((saveD ⟨ss, cs⟩ t).1).cache) false)], .inl (.s (.int .i64 (saveD ⟨ss, cs⟩ t).2.1)), .inl (.s (.int .i64 (saveD ⟨ss, cs⟩ t).2.2))]) (sealW m locs (.tup [.inr [.s (.list 1 (encs strE ((saveD ⟨ss, cs⟩ t).1).sectors) false), .s (.list 2 (encs wrE ((saveD ⟨ss, cs⟩ t).1).cache) false)], .inl (.s (.int .i64 (saveD ⟨ss, cs⟩ t).2.1)), .inl (.s (.int .i64 (saveD ⟨ss, cs⟩ t).2.2))]))) := by
  have := Classical.propDecidable (ss.length < 4000000 ∧ cs.length < 4000000)
  exact callO_of saveG_eq
attribute [go_sem] saveG_call saveG_callo

def sc_keep_Save : SC := .seq (.reg [⟨some 2, .box 2, [.t 0], none⟩,
⟨some 4, .alloc [.list 0 [] true, .list 0 [] true], [], none⟩,
⟨some 5, .mv, [.k (.c (.s (.int .i64 0)))], none⟩,
⟨some 6, .mv, [.k (.c (.s (.int .i64 0)))], none⟩]) (.seq (.reg [⟨some 11, .load 2 true, [.t 2], none⟩,
⟨some 12, .mv, [.t 1], none⟩,
⟨some 13, .call 33, [.t 11, .t 12], none⟩,
⟨some 10, .mv, [.t 13], none⟩,
⟨some 14, .ext 0, [.t 10], none⟩,
⟨some 15, .ext 1, [.t 10], none⟩,
⟨some 16, .ext 2, [.t 10], none⟩,
⟨some 7, .mv, [.t 14], none⟩,
⟨some 8, .mv, [.t 15], none⟩,
⟨some 9, .mv, [.t 16], none⟩]) (.seq (.seq (.reg [⟨some 17, .mv, [.t 9], none⟩,
⟨some 18, .bin .neq, [.t 17, .k (.c (.s (.int .i64 0)))], none⟩]) (.cond (.t 18) (.seq (.reg [⟨some 19, .load 2 true, [.t 2], none⟩,
⟨some 20, .mv, [.t 9], none⟩,
⟨none, .store 2 true, [.t 4, .t 19], none⟩,
⟨some 5, .mv, [.k (.c (.s (.int .i64 0)))], none⟩,
⟨some 6, .mv, [.t 20], none⟩]) (.ret)) (.skip))) (.seq (.reg [⟨some 21, .load 2 true, [.t 2], none⟩,
⟨some 22, .mv, [.t 7], none⟩,
⟨some 23, .mv, [.t 7], none⟩,
⟨some 24, .len false, [.t 23], none⟩,
⟨some 25, .call 27, [.t 21, .t 22, .t 24], none⟩,
⟨some 26, .mv, [.t 8], none⟩,
⟨none, .store 2 true, [.t 4, .t 25], none⟩,
⟨some 5, .mv, [.t 26], none⟩,
⟨some 6, .mv, [.k (.c (.s (.int .i64 0)))], none⟩]) (.ret))))
noncomputable def G_keep_Save : FuncId → Ab.Spec := addS (addS (noS) 33 (plain pushG)) 27 (plain runG)
theorem G_keep_Save_ok : ∀ f, Contract Try.prog f (G_keep_Save f) := (addS_ok (addS_ok (noS_ok _) contract_keep_Push) contract_disk_Run)
theorem G35_33 : G_keep_Save 33 = plain pushG := by simp [G_keep_Save, addS]
theorem G35_27 : G_keep_Save 27 = plain runG := by simp [G_keep_Save, addS]
set_option maxHeartbeats 16000000 in
set_option maxRecDepth 1000000 in
set_option linter.unusedSimpArgs false in
set_option linter.unusedVariables false in
theorem contract_keep_Save : Contract Try.prog 35 (plain saveG) := by
  have hb : ∃ c, Try.f35.body = some c ∧ codeOk 27 c = true ∧ cCode Try.prog c = sc_keep_Save := ⟨_, rfl, by kernel_rfl, by kernel_rfl⟩
  obtain ⟨c, hb1, hb2, hb3⟩ := hb
  refine contract_of (n := 2) G_keep_Save_ok hB hD Try.func35 hb1 (by kernel_rfl) hb2 hb3 (rs := [.cell 4 2 true, .tmp 5, .tmp 6]) (by kernel_rfl) (by decide) ?_ ?_
  · intro args x h
    obtain ⟨y, hy, -⟩ := Option.map_eq_some_iff.1 h
    obtain ⟨⟨ss, cs, f, g, t⟩, rfl, -⟩ := specE_some hy
    rfl
  · intro args r hr
    obtain ⟨y, hy, rfl⟩ := Option.map_eq_some_iff.1 hr
    obtain ⟨⟨ss, cs, f, g, t⟩, rfl, hc, rfl⟩ := specE_some hy
    clear hr hy
    have hc : ss.length < 4000000 ∧ cs.length < 4000000 := hc
    change awp _ _ (postQ _ (.v (.tup [.inr [.s (.list 1 (encs strE ((saveD ⟨ss, cs⟩ t).1).sectors) false), .s (.list 2 (encs wrE ((saveD ⟨ss, cs⟩ t).1).cache) false)], .inl (.s (.int .i64 (saveD ⟨ss, cs⟩ t).2.1)), .inl (.s (.int .i64 (saveD ⟨ss, cs⟩ t).2.2))]))) _
    unfold saveG_enc sc_keep_Save
    obtain ⟨c1, c2⟩ := hc
    have hsd : saveD ⟨ss, cs⟩ t = if (pushD ⟨ss, cs⟩ t).2.2 ≠ 0 then (⟨ss, cs⟩, 0, (pushD ⟨ss, cs⟩ t).2.2) else (runD ⟨ss, cs⟩ (pushD ⟨ss, cs⟩ t).1, (pushD ⟨ss, cs⟩ t).2.1, 0) := rfl
    have hpl := push_len ⟨ss, cs⟩ t
    have hpl2 : (pushD ⟨ss, cs⟩ t).1.length < 4000000 := by omega
    have hru : runN ⟨ss, cs⟩ (pushD ⟨ss, cs⟩ t).1 ((pushD ⟨ss, cs⟩ t).1.length : Int) = runD ⟨ss, cs⟩ (pushD ⟨ss, cs⟩ t).1 := run_lenN
    by_cases he : (pushD ⟨ss, cs⟩ t).2.2 = 0
    · rw [if_neg (by simp [he])] at hsd
      rw [hsd]
      simp (maxSteps := 4000000) only [↓exT_call G35_33, ↓exT_callo G35_33, ↓exT_calloG G35_33, ↓exT_call G35_27, ↓exT_callo G35_27, ↓exT_calloG G35_27, c1, c2, he, hpl2, hru, go_sem, Nat.reduceAdd, Nat.reduceSub, Nat.reduceMul, Nat.reduceEqDiff, Nat.reduceLeDiff, Nat.reduceLT, Nat.reduceBEq, Int.reduceLE, Int.reduceLT, Int.reduceToNat, Int.reduceNeg, Int.reduceAdd, Int.reduceSub, Int.reduceMul, ↓reduceIte]
    · rw [if_pos he] at hsd
      rw [hsd]
      simp (maxSteps := 4000000) only [↓exT_call G35_33, ↓exT_callo G35_33, ↓exT_calloG G35_33, ↓exT_call G35_27, ↓exT_callo G35_27, ↓exT_calloG G35_27, c1, c2, he, go_sem, Nat.reduceAdd, Nat.reduceSub, Nat.reduceMul, Nat.reduceEqDiff, Nat.reduceLeDiff, Nat.reduceLT, Nat.reduceBEq, Int.reduceLE, Int.reduceLT, Int.reduceToNat, Int.reduceNeg, Int.reduceAdd, Int.reduceSub, Int.reduceMul, ↓reduceIte]

end Go.Proofs.Ytniioedflegdkaa

/- What is fixed of the log: a fixed answer. -/
namespace Go.Proofs.Ytniioedflegdkaa
open Go Go.Ab Go.Proofs Go.Fs
theorem renew_lit {gt : Bool} {K : V → Prop} {ss : List Bs} {cs : List Wr} {f g : Bool} {a : Int} {t : Bs} {fl : Bool} : callE renewG [.agg [.s (.list 1 (encs strE ss) f), .s (.list 2 (encs wrE cs) g)], .c (.s (.list 2 [[.int .i64 a, .str t]] fl))] gt K =
    ((gt = true → ((2 = 2 ∨ [(⟨a, t⟩ : Rec)] = []) ∧ [(⟨a, t⟩ : Rec)].length < 4000000) ∧ ss.length < 4000000 ∧ cs.length < 4000000) ∧ bindV (ifV gt (.tup [.inl (.s (.list 3 (encs opE (renewD ⟨ss, cs⟩ [⟨a, t⟩]).1) false)), .inl (.s (.int .i64 (renewD ⟨ss, cs⟩ [⟨a, t⟩]).2))])) K) :=
  renewG_call (l := [⟨a, t⟩])
theorem renew_lito {m : Nat → Option Ab.Obj} {locs : List Nat} {K : V → (Nat → Option Ab.Obj) → Prop} {ss : List Bs} {cs : List Wr} {f g : Bool} {a : Int} {t : Bs} {fl : Bool} : callO renewG (some [.agg [.s (.list 1 (encs strE ss) f), .s (.list 2 (encs wrE cs) g)], .c (.s (.list 2 [[.int .i64 a, .str t]] fl))]) m locs K =
    ((((2 = 2 ∨ [(⟨a, t⟩ : Rec)] = []) ∧ [(⟨a, t⟩ : Rec)].length < 4000000) ∧ ss.length < 4000000 ∧ cs.length < 4000000) ∧ K (.tup [.inl (.s (.list 3 (encs opE (renewD ⟨ss, cs⟩ [⟨a, t⟩]).1) false)), .inl (.s (.int .i64 (renewD ⟨ss, cs⟩ [⟨a, t⟩]).2))]) (sealW m locs (.tup [.inl (.s (.list 3 (encs opE (renewD ⟨ss, cs⟩ [⟨a, t⟩]).1) false)), .inl (.s (.int .i64 (renewD ⟨ss, cs⟩ [⟨a, t⟩]).2))]))) :=
  renewG_callo (l := [⟨a, t⟩])
def awakeLG : List V → Option V
  | [] => some (.c (.s (.bool true)))
  | _ => none
theorem awakeLG_call  {gt : Bool} {K : V → Prop} : callE awakeLG [] gt K = bindV (ifV gt (.c (.s (.bool true)))) K := callE_all rfl
theorem awakeLG_callo  {m : Nat → Option Ab.Obj} {locs : List Nat} {K : V → (Nat → Option Ab.Obj) → Prop} : callO awakeLG (some []) m locs K = K (.c (.s (.bool true))) (sealW m locs (.c (.s (.bool true)))) := callO_all rfl
attribute [go_sem] awakeLG_call awakeLG_callo

def sc_law18_awake : SC := .seq (.reg [⟨some 0, .mv, [.k (.c (.s (.bool false)))], none⟩]) (.seq (.reg [⟨some 14, .call 26, [.k (.c (.s (.int .i64 9)))], none⟩,
⟨some 13, .mv, [.t 14], none⟩,
⟨some 15, .ext 0, [.t 13], none⟩,
⟨some 16, .ext 1, [.t 13], none⟩,
⟨some 1, .alloc [.list 0 [] true, .list 0 [] true], [], none⟩,
⟨none, .store 2 true, [.t 1, .t 15], none⟩,
⟨some 2, .mv, [.t 16], none⟩]) (.seq (.reg [⟨some 18, .load 2 true, [.t 1], none⟩,
⟨some 19, .call 20, [.t 18, .k (.c (.s (.str [48, 49, 50, 51, 52, 53, 54, 55, 56, 57, 48, 49, 50, 51, 52, 53, 54, 55, 56, 57, 48, 49, 50, 51, 52, 53, 54, 55, 56, 57, 48, 49, 50, 51, 52, 53, 54, 55, 56, 57])))], none⟩,
⟨some 17, .mv, [.t 19], none⟩,
⟨some 20, .ext 0, [.t 17], none⟩,
⟨some 21, .ext 1, [.t 17], none⟩,
⟨some 3, .mv, [.t 20], none⟩,
⟨some 4, .mv, [.t 21], none⟩]) (.seq (.reg [⟨some 22, .load 2 true, [.t 1], none⟩,
⟨some 23, .mv, [.t 3], none⟩,
⟨some 24, .mv, [.t 3], none⟩,
⟨some 25, .len false, [.t 24], none⟩,
⟨some 26, .call 27, [.t 22, .t 23, .t 25], none⟩,
⟨none, .store 2 true, [.t 1, .t 26], none⟩]) (.seq (.reg [⟨some 28, .load 2 true, [.t 1], none⟩,
⟨some 29, .call 16, [.t 28], none⟩,
⟨some 27, .mv, [.t 29], none⟩,
⟨some 30, .ext 0, [.t 27], none⟩,
⟨some 31, .ext 1, [.t 27], none⟩,
⟨some 5, .alloc [.int .i64 0, .list 0 [] true, .int .i64 0], [], none⟩,
⟨none, .store 3 true, [.t 5, .t 30], none⟩,
⟨some 6, .mv, [.t 31], none⟩]) (.seq (.reg [⟨some 33, .load 2 true, [.t 1], none⟩,
⟨some 34, .call 20, [.t 33, .k (.c (.s (.str [120])))], none⟩,
⟨some 32, .mv, [.t 34], none⟩,
⟨some 35, .ext 0, [.t 32], none⟩,
⟨some 36, .ext 1, [.t 32], none⟩,
⟨some 7, .mv, [.t 35], none⟩,
⟨some 8, .mv, [.t 36], none⟩]) (.seq (.reg [⟨some 38, .load 2 true, [.t 1], none⟩,
⟨some 39, .build [.int .i64 0, .str []] [(0, 1), (1, 1)], [.k (.c (.s (.int .i64 1))), .k (.c (.s (.str [121])))], none⟩,
⟨some 40, .bslice 2 1 [.int .i64 0, .str []] [0], [.t 39], none⟩,
⟨some 41, .call 24, [.t 38, .t 40], none⟩,
⟨some 37, .mv, [.t 41], none⟩,
⟨some 42, .ext 0, [.t 37], none⟩,
⟨some 43, .ext 1, [.t 37], none⟩,
⟨some 9, .mv, [.t 42], none⟩,
⟨some 10, .mv, [.t 43], none⟩]) (.seq (.reg [⟨some 45, .load 2 true, [.t 1], none⟩,
⟨some 46, .mv, [.t 9], none⟩,
⟨some 47, .mv, [.t 9], none⟩,
⟨some 48, .len false, [.t 47], none⟩,
⟨some 49, .call 27, [.t 45, .t 46, .t 48], none⟩,
⟨some 50, .call 16, [.t 49], none⟩,
⟨some 44, .mv, [.t 50], none⟩,
⟨some 51, .ext 0, [.t 44], none⟩,
⟨some 52, .ext 1, [.t 44], none⟩,
⟨some 11, .alloc [.int .i64 0, .list 0 [] true, .int .i64 0], [], none⟩,
⟨none, .store 3 true, [.t 11, .t 51], none⟩,
⟨some 12, .mv, [.t 52], none⟩]) (.seq (.reg [⟨some 53, .mv, [.t 2], none⟩,
⟨some 54, .bin .eql, [.t 53, .k (.c (.s (.int .i64 0)))], none⟩,
⟨some 55, .mv, [.t 54], none⟩,
⟨some 56, .mv, [.t 4], some (55, true)⟩,
⟨some 57, .bin .eql, [.t 56, .k (.c (.s (.int .i64 0)))], some (55, true)⟩,
⟨some 58, .pick, [.t 55, .t 57, .k (.c (.s (.bool false)))], none⟩,
⟨some 59, .mv, [.t 58], none⟩,
⟨some 60, .mv, [.t 3], some (59, true)⟩,
⟨some 61, .len false, [.t 60], some (59, true)⟩,
⟨some 62, .bin .eql, [.t 61, .k (.c (.s (.int .i64 5)))], some (59, true)⟩,
⟨some 63, .pick, [.t 59, .t 62, .k (.c (.s (.bool false)))], none⟩,
⟨some 64, .mv, [.t 63], none⟩,
⟨some 65, .mv, [.t 6], some (64, true)⟩,
⟨some 66, .bin .eql, [.t 65, .k (.c (.s (.int .i64 0)))], some (64, true)⟩,
⟨some 67, .pick, [.t 64, .t 66, .k (.c (.s (.bool false)))], none⟩,
⟨some 68, .mv, [.t 67], none⟩,
⟨some 69, .fadr 1, [.t 5], some (68, true)⟩,
⟨some 70, .load 1 false, [.t 69], some (68, true)⟩,
⟨some 71, .len false, [.t 70], some (68, true)⟩,
⟨some 72, .bin .eql, [.t 71, .k (.c (.s (.int .i64 1)))], some (68, true)⟩,
⟨some 73, .pick, [.t 68, .t 72, .k (.c (.s (.bool false)))], none⟩,
⟨some 74, .mv, [.t 73], none⟩,
⟨some 75, .fadr 2, [.t 5], some (74, true)⟩,
⟨some 76, .load 1 false, [.t 75], some (74, true)⟩,
⟨some 77, .bin .eql, [.t 76, .k (.c (.s (.int .i64 4)))], some (74, true)⟩,
⟨some 78, .pick, [.t 74, .t 77, .k (.c (.s (.bool false)))], none⟩,
⟨some 79, .mv, [.t 78], none⟩,
⟨some 80, .mv, [.t 8], some (79, true)⟩,
⟨some 81, .bin .eql, [.t 80, .k (.c (.s (.int .i64 10)))], some (79, true)⟩,
⟨some 82, .pick, [.t 79, .t 81, .k (.c (.s (.bool false)))], none⟩,
⟨some 83, .mv, [.t 82], none⟩,
⟨some 84, .mv, [.t 10], some (83, true)⟩,
⟨some 85, .bin .eql, [.t 84, .k (.c (.s (.int .i64 0)))], some (83, true)⟩,
⟨some 86, .pick, [.t 83, .t 85, .k (.c (.s (.bool false)))], none⟩,
⟨some 87, .mv, [.t 86], none⟩,
⟨some 88, .mv, [.t 12], some (87, true)⟩,
⟨some 89, .bin .eql, [.t 88, .k (.c (.s (.int .i64 0)))], some (87, true)⟩,
⟨some 90, .pick, [.t 87, .t 89, .k (.c (.s (.bool false)))], none⟩,
⟨some 91, .mv, [.t 90], none⟩,
⟨some 92, .fadr 0, [.t 11], some (91, true)⟩,
⟨some 93, .load 1 false, [.t 92], some (91, true)⟩,
⟨some 94, .bin .eql, [.t 93, .k (.c (.s (.int .i64 1)))], some (91, true)⟩,
⟨some 95, .pick, [.t 91, .t 94, .k (.c (.s (.bool false)))], none⟩,
⟨some 96, .mv, [.t 95], none⟩,
⟨some 97, .fadr 1, [.t 11], some (96, true)⟩,
⟨some 98, .load 1 false, [.t 97], some (96, true)⟩,
⟨some 99, .len false, [.t 98], some (96, true)⟩,
⟨some 100, .bin .eql, [.t 99, .k (.c (.s (.int .i64 1)))], some (96, true)⟩,
⟨some 101, .pick, [.t 96, .t 100, .k (.c (.s (.bool false)))], none⟩,
⟨some 102, .mv, [.t 101], none⟩,
⟨some 103, .fadr 1, [.t 11], some (102, true)⟩,
⟨some 104, .load 1 false, [.t 103], some (102, true)⟩,
⟨some 105, .iadr 2, [.t 104, .k (.c (.s (.int .i64 0)))], some (102, true)⟩,
⟨some 106, .fadr 1, [.t 105], some (102, true)⟩,
⟨some 107, .load 1 false, [.t 106], some (102, true)⟩,
⟨some 108, .bin .eql, [.t 107, .k (.c (.s (.str [121])))], some (102, true)⟩,
⟨some 109, .pick, [.t 102, .t 108, .k (.c (.s (.bool false)))], none⟩,
⟨some 110, .mv, [.t 109], none⟩,
⟨some 111, .pick, [.t 110, .k (.c (.s (.bool true))), .k (.c (.s (.bool false)))], none⟩,
⟨some 0, .mv, [.t 111], none⟩]) (.ret)))))))))
noncomputable def G_law18_awake : FuncId → Ab.Spec := addS (addS (addS (addS (addS (noS) 26 (plain newG)) 20 (plain appendG)) 27 (plain runG)) 16 (plain scanG)) 24 (plain renewG)
theorem G_law18_awake_ok : ∀ f, Contract Try.prog f (G_law18_awake f) := (addS_ok (addS_ok (addS_ok (addS_ok (addS_ok (noS_ok _) contract_disk_New) contract_log_Append) contract_disk_Run) contract_log_Scan) contract_log_Renew)
theorem G15_26 : G_law18_awake 26 = plain newG := by simp [G_law18_awake, addS]
theorem G15_20 : G_law18_awake 20 = plain appendG := by simp [G_law18_awake, addS]
theorem G15_27 : G_law18_awake 27 = plain runG := by simp [G_law18_awake, addS]
theorem G15_16 : G_law18_awake 16 = plain scanG := by simp [G_law18_awake, addS]
theorem G15_24 : G_law18_awake 24 = plain renewG := by simp [G_law18_awake, addS]
set_option maxHeartbeats 16000000 in
set_option maxRecDepth 1000000 in
set_option linter.unusedSimpArgs false in
set_option linter.unusedVariables false in
theorem contract_law18_awake : Contract Try.prog 15 (plain awakeLG) := by
  have hb : ∃ c, Try.f15.body = some c ∧ codeOk 112 c = true ∧ cCode Try.prog c = sc_law18_awake := ⟨_, rfl, by kernel_rfl, by kernel_rfl⟩
  obtain ⟨c, hb1, hb2, hb3⟩ := hb
  refine contract_of (n := 0) G_law18_awake_ok hB hD Try.func15 hb1 (by kernel_rfl) hb2 hb3 (rs := [.tmp 0]) (by kernel_rfl) (by decide) ?_ ?_
  · intro args x h
    unfold plain awakeLG at h
    split at h <;> simp_all
  · intro args r hr
    unfold plain awakeLG at hr
    split at hr
    case h_2 => cases hr
    simp only [Option.map_some, Option.some.injEq] at hr
    subst hr
    unfold sc_law18_awake
    have h2 : newE 9 = 0 := by decide
    have hd0 : newDI 9 = newD 9 := rfl
    generalize hs : ([48, 49, 50, 51, 52, 53, 54, 55, 56, 57, 48, 49, 50, 51, 52, 53, 54, 55, 56, 57, 48, 49, 50, 51, 52, 53, 54, 55, 56, 57, 48, 49, 50, 51, 52, 53, 54, 55, 56, 57] : Bs) = s
    generalize hx : ([120] : Bs) = x
    generalize hy : ([121] : Bs) = y
    have ls : s.length = 40 := by subst hs; rfl
    have lx : x.length = 1 := by subst hx; rfl
    have ly : y.length = 1 := by subst hy; rfl
    obtain ⟨d1, d2, a1, a2, a3, a4, a5, a6, a7, a8, a9, b1, b2, b3, b4, b5⟩ := aw18 ls lx ly
    have l0 := new_len 9
    generalize newD 9 = d0 at *
    clear hs hx hy
    have l01 : d0.sectors.length < 4000000 := by omega
    have l02 : d0.cache.length < 4000000 := by omega
    rw [← run_lenN] at a3 a9
    generalize hap : appendD d0 s = AP at *
    have l1 : AP.1.length < 4000000 := by omega
    have l1i : (AP.1.length : Int) = 5 := by omega
    have hr1 : runN d0 AP.1 5 = d1 := by rw [← l1i]; exact a3
    generalize hrn : renewD d1 [⟨1, y⟩] = RN at *
    have l2 : RN.1.length < 4000000 := by have := renew_len d1 [⟨1, y⟩]; rw [hrn] at this; omega
    have hr2 : runN d1 RN.1 (RN.1.length : Int) = d2 := a9
    have c1 : ((scanD d1).1.recs.length : Int) = 1 := by omega
    have c2 : ((scanD d1).1.next : Int) = 4 := by omega
    have c3 : ((scanD d2).1.gen : Int) = 1 := by omega
    have c4 : encs recE (scanD d2).1.recs = [[.int .i64 1, .str y]] := by rw [b3]; rfl
    have c5 : ((scanD d2).1.recs.length : Int) = 1 := by rw [b3]; rfl
    have h11 : ((1 : Nat) : Int) = 1 := rfl
    have h13 : ((0 : Int) < 1) = True := by simp
    simp (maxSteps := 4000000) only [↓exT_call G15_26, ↓exT_callo G15_26, ↓exT_calloG G15_26, ↓exT_call G15_20, ↓exT_callo G15_20, ↓exT_calloG G15_20, ↓exT_call G15_27, ↓exT_callo G15_27, ↓exT_calloG G15_27, ↓exT_call G15_16, ↓exT_callo G15_16, ↓exT_calloG G15_16, ↓exT_call G15_24, ↓exT_callo G15_24, ↓exT_calloG G15_24, h11, h13, h2, hd0, l01, l02, hap, l1, hr1, b4.1, b4.2, a4, a7, renew_lit, renew_lito, hrn, l2, hr2, b5.1, b5.2, b1, a1, l1i, c1, c2, a8, c3, c4, c5, go_sem, Nat.reduceAdd, Nat.reduceSub, Nat.reduceMul, Nat.reduceEqDiff, Nat.reduceLeDiff, Nat.reduceLT, Nat.reduceBEq, Int.reduceLE, Int.reduceLT, Int.reduceToNat, Int.reduceNeg, Int.reduceAdd, Int.reduceSub, Int.reduceMul, ↓reduceIte]

end Go.Proofs.Ytniioedflegdkaa

/- The plan of a step. -/
namespace Go.Proofs.Ytniioedflegdkaa
open Go Go.Ab Go.Proofs Go.Fs
def stpE (s : Stp) : List S := [.bool s.rn, .bool s.cut, .int .i64 s.n, .int .i64 s.most, .str s.t, .list 1 (encs numE s.keep) s.h]
theorem stpE_eq {s : Stp} : stpE s = [.bool s.rn, .bool s.cut, .int .i64 s.n, .int .i64 s.most, .str s.t, .list 1 (encs numE s.keep) s.h] := nr rfl
theorem stpE_inj {a b : List Stp} : (encs stpE a = encs stpE b) = (a = b) := encs_inj fun x y e => by
  simp only [stpE, List.cons.injEq, S.int.injEq, S.str.injEq, S.bool.injEq, S.list.injEq, numE_inj, true_and, and_true] at e
  cases x; cases y; simp_all
attribute [go_sem] stpE_eq
def planG_enc : (List Bs) × (List Wr) × (Bool) × (Bool) × (List Rec) × (Nat) × (Bool) × (Bool) × (Bool) × (Int) × (Int) × (Bs) × (List Int) × (Bool) → List V := fun ⟨ss, cs, f, g, was, k, h, rn, cut, n, most, t, keep, h1⟩ => [.agg [.s (.list 1 (encs strE ss) f), .s (.list 2 (encs wrE cs) g)], .c (.s (.list k (encs recE was) h)), .agg [.s (.bool rn), .s (.bool cut), .s (.int .i64 n), .s (.int .i64 most), .s (.str t), .s (.list 1 (encs numE keep) h1)]]
theorem planG_inj : ∀ x y, planG_enc x = planG_enc y → x = y := by
  rintro ⟨ss, cs, f, g, was, k, h, rn, cut, n, most, t, keep, h1⟩ ⟨ss2, cs2, f2, g2, was2, k2, h2, rn2, cut2, n2, most2, t2, keep2, h12⟩ h
  simp only [planG_enc, List.cons.injEq, V.c.injEq, V.agg.injEq, C.s.injEq, S.list.injEq, S.str.injEq, S.int.injEq, S.bool.injEq, S.fn.injEq, S.cref.injEq, strE_inj, true_and, and_true, wrE_inj, recE_inj, numE_inj] at h
  simp_all
noncomputable def planG : List V → Option (V) := specE planG_enc (fun ⟨ss, cs, f, g, was, k, h, rn, cut, n, most, t, keep, h1⟩ => (ss.length < 4000000 ∧ cs.length < 4000000) ∧ (k = 2 ∨ was = []) ∧ was.length < 4000000 ∧ chainB none was = true) (fun ⟨ss, cs, f, g, was, k, h, rn, cut, n, most, t, keep, h1⟩ => .tup [.inl (.s (.list 3 (encs opE (planD ⟨ss, cs⟩ was rn n t).1) false)), .inl (.s (.list 2 (encs recE (planD ⟨ss, cs⟩ was rn n t).2) false))])
theorem planG_eq {ss : List Bs} {cs : List Wr} {f : Bool} {g : Bool} {was : List Rec} {k : Nat} {h : Bool} {rn : Bool} {cut : Bool} {n : Int} {most : Int} {t : Bs} {keep : List Int} {h1 : Bool} [Decidable ((ss.length < 4000000 ∧ cs.length < 4000000) ∧ (k = 2 ∨ was = []) ∧ was.length < 4000000 ∧ chainB none was = true)] : planG [.agg [.s (.list 1 (encs strE ss) f), .s (.list 2 (encs wrE cs) g)], .c (.s (.list k (encs recE was) h)), .agg [.s (.bool rn), .s (.bool cut), .s (.int .i64 n), .s (.int .i64 most), .s (.str t), .s (.list 1 (encs numE keep) h1)]] = if (ss.length < 4000000 ∧ cs.length < 4000000) ∧ (k = 2 ∨ was = []) ∧ was.length < 4000000 ∧ chainB none was = true then some (.tup [.inl (.s (.list 3 (encs opE (planD ⟨ss, cs⟩ was rn n t).1) false)), .inl (.s (.list 2 (encs recE (planD ⟨ss, cs⟩ was rn n t).2) false))]) else none := specE_eq planG_inj (ss, cs, f, g, was, k, h, rn, cut, n, most, t, keep, h1)
theorem planG_call {ss : List Bs} {cs : List Wr} {f : Bool} {g : Bool} {was : List Rec} {k : Nat} {h : Bool} {rn : Bool} {cut : Bool} {n : Int} {most : Int} {t : Bs} {keep : List Int} {h1 : Bool} {gt : Bool} {K : V → Prop} : callE planG [.agg [.s (.list 1 (encs strE ss) f), .s (.list 2 (encs wrE cs) g)], .c (.s (.list k (encs recE was) h)), .agg [.s (.bool rn), .s (.bool cut), .s (.int .i64 n), .s (.int .i64 most), .s (.str t), .s (.list 1 (encs numE keep) h1)]] gt K = ((gt = true → (ss.length < 4000000 ∧ cs.length < 4000000) ∧ (k = 2 ∨ was = []) ∧ was.length < 4000000 ∧ chainB none was = true) ∧ bindV (ifV gt (.tup [.inl (.s (.list 3 (encs opE (planD ⟨ss, cs⟩ was rn n t).1) false)), .inl (.s (.list 2 (encs recE (planD ⟨ss, cs⟩ was rn n t).2) false))])) K) := by
  have := Classical.propDecidable ((ss.length < 4000000 ∧ cs.length < 4000000) ∧ (k = 2 ∨ was = []) ∧ was.length < 4000000 ∧ chainB none was = true)
  exact callE_of planG_eq
theorem planG_callo {ss : List Bs} {cs : List Wr} {f : Bool} {g : Bool} {was : List Rec} {k : Nat} {h : Bool} {rn : Bool} {cut : Bool} {n : Int} {most : Int} {t : Bs} {keep : List Int} {h1 : Bool} {m : Nat → Option Ab.Obj} {locs : List Nat} {K : V → (Nat → Option Ab.Obj) → Prop} : callO planG (some [.agg [.s (.list 1 (encs strE ss) f), .s (.list 2 (encs wrE cs) g)], .c (.s (.list k (encs recE was) h)), .agg [.s (.bool rn), .s (.bool cut), .s (.int .i64 n), .s (.int .i64 most), .s (.str t), .s (.list 1 (encs numE keep) h1)]]) m locs K = (((ss.length < 4000000 ∧ cs.length < 4000000) ∧ (k = 2 ∨ was = []) ∧ was.length < 4000000 ∧ chainB none was = true) ∧ K (.tup [.inl (.s (.list 3 (encs opE (planD ⟨ss, cs⟩ was rn n t).1) false)), .inl (.s (.list 2 (encs recE (planD ⟨ss, cs⟩ was rn n t).2) false))]) (sealW m locs (.tup [.inl (.s (.list 3 (encs opE (planD ⟨ss, cs⟩ was rn n t).1) false)), .inl (.s (.list 2 (encs recE (planD ⟨ss, cs⟩ was rn n t).2) false))]))) := by
  have := Classical.propDecidable ((ss.length < 4000000 ∧ cs.length < 4000000) ∧ (k = 2 ∨ was = []) ∧ was.length < 4000000 ∧ chainB none was = true)
  exact callO_of planG_eq
attribute [go_sem] planG_call planG_callo

def sc_law18_plan : SC := .seq (.reg [⟨some 3, .box 2, [.t 0], none⟩,
⟨some 5, .box 6, [.t 2], none⟩,
⟨some 6, .mv, [.k (.c (.s (.list 0 [] true)))], none⟩,
⟨some 7, .mv, [.k (.c (.s (.list 0 [] true)))], none⟩]) (.seq (.seq (.reg [⟨some 17, .fadr 0, [.t 5], none⟩,
⟨some 18, .load 1 false, [.t 17], none⟩]) (.cond (.t 18) (.seq (.reg [⟨some 19, .fadr 2, [.t 5], none⟩,
⟨some 20, .load 1 false, [.t 19], none⟩,
⟨some 21, .mnx true, [.t 20, .k (.c (.s (.int .i64 0)))], none⟩,
⟨some 22, .mv, [.t 1], none⟩,
⟨some 23, .len false, [.t 22], none⟩,
⟨some 24, .mnx false, [.t 21, .t 23], none⟩,
⟨some 8, .mv, [.t 24], none⟩]) (.seq (.reg [⟨some 9, .mv, [.k (.c (.s (.list 0 [] true)))], none⟩]) (.seq (.seq (.reg [⟨some 25, .mv, [.t 1], none⟩,
⟨some 26, .mv, [.t 1], none⟩,
⟨some 27, .len false, [.t 26], none⟩,
⟨some 28, .mv, [.t 8], none⟩,
⟨some 29, .bin .sub, [.t 27, .t 28], none⟩,
⟨some 30, .slcL 2 true false false, [.t 25, .t 29], none⟩,
⟨some 31, .len false, [.t 30], none⟩,
⟨some 32, .mv, [.k (.c (.s (.int .i64 0)))], none⟩]) (.block 0 (.loop (.seq (.reg [⟨some 33, .bin .lss, [.t 32, .t 31], none⟩]) (.seq (.cond (.t 33) (.skip) (.exit 0)) (.seq (.block 1 (.seq (.reg [⟨some 34, .iadr 2, [.t 30, .t 32], none⟩,
⟨some 35, .load 2 true, [.t 34], none⟩,
⟨some 11, .alloc [.int .i64 0, .str []], [], none⟩,
⟨none, .store 2 true, [.t 11, .t 35], none⟩]) (.reg [⟨some 36, .mv, [.t 9], none⟩,
⟨some 37, .load 2 true, [.t 11], none⟩,
⟨some 38, .bslice 2 1 [.int .i64 0, .str []] [0], [.t 37], none⟩,
⟨some 39, .append false 2 24, [.t 36, .t 38], none⟩,
⟨some 9, .mv, [.t 39], none⟩]))) (.reg [⟨some 40, .bin .add, [.t 32, .k (.c (.s (.int .i64 1)))], none⟩,
⟨some 32, .mv, [.t 40], none⟩]))))))) (.seq (.reg [⟨some 42, .load 2 true, [.t 3], none⟩,
⟨some 43, .mv, [.t 9], none⟩,
⟨some 44, .call 24, [.t 42, .t 43], none⟩,
⟨some 41, .mv, [.t 44], none⟩,
⟨some 45, .ext 0, [.t 41], none⟩,
⟨some 46, .ext 1, [.t 41], none⟩,
⟨some 12, .mv, [.t 45], none⟩,
⟨some 13, .mv, [.t 46], none⟩]) (.seq (.regD [⟨some 47, .mv, [.t 12], none⟩,
⟨some 48, .mv, [.t 1], none⟩,
⟨some 49, .mv, [.t 1], none⟩,
⟨some 50, .len false, [.t 49], none⟩,
⟨some 51, .mv, [.t 8], none⟩,
⟨some 52, .bin .sub, [.t 50, .t 51], none⟩,
⟨some 53, .slcL 2 true false false, [.t 48, .t 52], none⟩,
⟨some 6, .mv, [.t 47], none⟩,
⟨some 7, .mv, [.t 53], none⟩] []) (.ret)))))) (.skip))) (.seq (.reg [⟨some 55, .load 2 true, [.t 3], none⟩,
⟨some 56, .fadr 4, [.t 5], none⟩,
⟨some 57, .load 1 false, [.t 56], none⟩,
⟨some 58, .call 20, [.t 55, .t 57], none⟩,
⟨some 54, .mv, [.t 58], none⟩,
⟨some 59, .ext 0, [.t 54], none⟩,
⟨some 60, .ext 1, [.t 54], none⟩,
⟨some 14, .mv, [.t 59], none⟩,
⟨some 15, .mv, [.t 60], none⟩]) (.seq (.reg [⟨some 16, .mv, [.k (.c (.s (.int .i64 1)))], none⟩]) (.seq (.seq (.reg [⟨some 61, .mv, [.t 1], none⟩,
⟨some 62, .len false, [.t 61], none⟩,
⟨some 63, .bin .gtr, [.t 62, .k (.c (.s (.int .i64 0)))], none⟩]) (.cond (.t 63) (.reg [⟨some 64, .mv, [.t 1], none⟩,
⟨some 65, .mv, [.t 1], none⟩,
⟨some 66, .len false, [.t 65], none⟩,
⟨some 67, .bin .sub, [.t 66, .k (.c (.s (.int .i64 1)))], none⟩,
⟨some 68, .iadr 2, [.t 64, .t 67], none⟩,
⟨some 69, .fadr 0, [.t 68], none⟩,
⟨some 70, .load 1 false, [.t 69], none⟩,
⟨some 71, .bin .add, [.t 70, .k (.c (.s (.int .i64 1)))], none⟩,
⟨some 16, .mv, [.t 71], none⟩]) (.skip))) (.seq (.regD [⟨some 72, .mv, [.t 14], none⟩,
⟨some 73, .bslice 2 0 [.int .i64 0, .str []] [], [], none⟩,
⟨some 74, .mv, [.t 1], none⟩,
⟨some 75, .append false 2 24, [.t 73, .t 74], none⟩,
⟨some 76, .mv, [.t 16], none⟩,
⟨some 77, .fadr 4, [.t 5], none⟩,
⟨some 78, .load 1 false, [.t 77], none⟩,
⟨some 79, .build [.int .i64 0, .str []] [(0, 1), (1, 1)], [.t 76, .t 78], none⟩,
⟨some 80, .bslice 2 1 [.int .i64 0, .str []] [0], [.t 79], none⟩,
⟨some 81, .append false 2 24, [.t 75, .t 80], none⟩,
⟨some 6, .mv, [.t 72], none⟩,
⟨some 7, .mv, [.t 81], none⟩] [(1, 5), (3, 5), (1, 6), (3, 6), (1, 8), (3, 8)]) (.ret))))))
noncomputable def G_law18_plan : FuncId → Ab.Spec := addS (addS (noS) 24 (plain renewG)) 20 (plain appendG)
theorem G_law18_plan_ok : ∀ f, Contract Try.prog f (G_law18_plan f) := (addS_ok (addS_ok (noS_ok _) contract_log_Renew) contract_log_Append)
theorem G28_24 : G_law18_plan 24 = plain renewG := by simp [G_law18_plan, addS]
theorem G28_20 : G_law18_plan 20 = plain appendG := by simp [G_law18_plan, addS]
set_option maxHeartbeats 16000000 in
set_option maxRecDepth 1000000 in
set_option linter.unusedSimpArgs false in
set_option linter.unusedVariables false in
theorem contract_law18_plan : Contract Try.prog 28 (plain planG) := by
  have hb : ∃ c, Try.f28.body = some c ∧ codeOk 82 c = true ∧ cCode Try.prog c = sc_law18_plan := ⟨_, rfl, by kernel_rfl, by kernel_rfl⟩
  obtain ⟨c, hb1, hb2, hb3⟩ := hb
  refine contract_of (n := 3) G_law18_plan_ok hB hD Try.func28 hb1 (by kernel_rfl) hb2 hb3 (rs := [.tmp 6, .tmp 7]) (by kernel_rfl) (by decide) ?_ ?_
  · intro args x h
    obtain ⟨y, hy, -⟩ := Option.map_eq_some_iff.1 h
    obtain ⟨⟨ss, cs, f, g, was, k, h, rn, cut, n, most, t, keep, h1⟩, rfl, -⟩ := specE_some hy
    rfl
  · intro args r hr
    obtain ⟨y, hy, rfl⟩ := Option.map_eq_some_iff.1 hr
    obtain ⟨⟨ss, cs, f, g, was, k, h, rn, cut, n, most, t, keep, h1⟩, rfl, hc, rfl⟩ := specE_some hy
    clear hr hy
    have hc : (ss.length < 4000000 ∧ cs.length < 4000000) ∧ (k = 2 ∨ was = []) ∧ was.length < 4000000 ∧ chainB none was = true := hc
    change awp _ _ (postQ _ (.v (.tup [.inl (.s (.list 3 (encs opE (planD ⟨ss, cs⟩ was rn n t).1) false)), .inl (.s (.list 2 (encs recE (planD ⟨ss, cs⟩ was rn n t).2) false))]))) _
    unfold planG_enc sc_law18_plan
    obtain ⟨⟨c1, c2⟩, hk, hw, hch⟩ := hc
    have hkr : (k = 2 ∨ was = []) = True := eq_true hk
    cases rn with
    | true =>
      obtain ⟨j, hj, hjl⟩ : ∃ j : Nat, min (max n 0) (was.length : Int) = j ∧ j ≤ was.length := ⟨(min (max n 0) (was.length : Int)).toNat, by omega, by omega⟩
      have hpl : planD ⟨ss, cs⟩ was true n t = ((renewD ⟨ss, cs⟩ (newestL was j)).1, newestL was j) := by unfold planD; rw [hj]; rfl
      have hd : was.drop ((was.length : Int) - j).toNat = newestL was j := by unfold newestL; congr 1; omega
      have hd1 : 0 ≤ (was.length : Int) - j ∧ (was.length : Int) - j ≤ was.length := by omega
      have hnl := newest_len was j
      rw [hpl]
      generalize newestL was j = l at *
      simp (maxSteps := 4000000) only [↓exT_call G28_24, ↓exT_callo G28_24, ↓exT_calloG G28_24, ↓exT_call G28_20, ↓exT_callo G28_20, ↓exT_calloG G28_20, hkr, hj, hd, hd1.1, hd1.2, go_sem, Nat.reduceAdd, Nat.reduceSub, Nat.reduceMul, Nat.reduceEqDiff, Nat.reduceLeDiff, Nat.reduceLT, Nat.reduceBEq, Int.reduceLE, Int.reduceLT, Int.reduceToNat, Int.reduceNeg, Int.reduceAdd, Int.reduceSub, Int.reduceMul, ↓reduceIte]
      refine ⟨by omega, ?_⟩
      refine awp_loopM (α := Nat) (fun i => [(1, .c (.s (.list k (encs recE was) h))), (3, .c (.ptr 3 0)), (8, .c (.s (.int .i64 j))), (9, .c (.own 9 i)), (30, .c (.s (.list 2 (encs recE l) h))), (31, .c (.s (.int .i64 l.length))), (32, .c (.s (.int .i64 i)))])
        (fun i => [(3, .box [.s (.list 1 (encs strE ss) f), .s (.list 2 (encs wrE cs) g)]), (9, .row 2 (encs recE (l.take i)))]) (fun i => l.length - i) 0 (fun i => i ≤ l.length) (Nat.zero_le _) (Weak.trans (Weak.nilSlot 9 9 2 rfl rfl) (Weak.meets ?_)) ?_
      · simp (maxSteps := 4000000) only [↓exT_call G28_24, ↓exT_callo G28_24, ↓exT_calloG G28_24, ↓exT_call G28_20, ↓exT_callo G28_20, ↓exT_calloG G28_20, go_sem, Nat.reduceAdd, Nat.reduceSub, Nat.reduceMul, Nat.reduceEqDiff, Nat.reduceLeDiff, Nat.reduceLT, Nat.reduceBEq, Int.reduceLE, Int.reduceLT, Int.reduceToNat, Int.reduceNeg, Int.reduceAdd, Int.reduceSub, Int.reduceMul, ↓reduceIte]
        simp
      intro x hx
      have hl : (encs recE (l.take x)).length = x := by simp [encs]; omega
      by_cases hxl : x < l.length
      · have hxi : (x : Int) < (l.length : Int) := by omega
        simp (maxSteps := 4000000) only [↓exT_call G28_24, ↓exT_callo G28_24, ↓exT_calloG G28_24, ↓exT_call G28_20, ↓exT_callo G28_20, ↓exT_calloG G28_20, hxi, hl, recs_snoc hxl, go_sem, Nat.reduceAdd, Nat.reduceSub, Nat.reduceMul, Nat.reduceEqDiff, Nat.reduceLeDiff, Nat.reduceLT, Nat.reduceBEq, Int.reduceLE, Int.reduceLT, Int.reduceToNat, Int.reduceNeg, Int.reduceAdd, Int.reduceSub, Int.reduceMul, ↓reduceIte]
        refine ⟨by omega, by omega, x + 1, by omega, by omega, ⟨by simp; omega, by omega⟩, rfl⟩
      · have hxi : ¬ (x : Int) < (l.length : Int) := by omega
        obtain rfl : x = l.length := by omega
        rw [List.take_length]
        simp (maxSteps := 4000000) only [↓exT_call G28_24, ↓exT_callo G28_24, ↓exT_calloG G28_24, ↓exT_call G28_20, ↓exT_callo G28_20, ↓exT_calloG G28_20, hxi, hkr, hd, hd1.1, hd1.2, go_sem, Nat.reduceAdd, Nat.reduceSub, Nat.reduceMul, Nat.reduceEqDiff, Nat.reduceLeDiff, Nat.reduceLT, Nat.reduceBEq, Int.reduceLE, Int.reduceLT, Int.reduceToNat, Int.reduceNeg, Int.reduceAdd, Int.reduceSub, Int.reduceMul, ↓reduceIte]
        exact ⟨⟨by omega, c1, c2⟩, by omega⟩
    | false =>
      have hpl : planD ⟨ss, cs⟩ was false n t = ((appendD ⟨ss, cs⟩ t).1, was ++ [⟨lastNum was + 1, t⟩]) := rfl
      rw [hpl]
      by_cases h0 : was = []
      · have hz : ¬ (0 : Int) < (was.length : Int) := by rw [h0]; simp
        have hN : lastNum was + 1 = 1 := by rw [h0]; rfl
        rw [hN]
        simp (maxSteps := 4000000) only [↓exT_call G28_24, ↓exT_callo G28_24, ↓exT_calloG G28_24, ↓exT_call G28_20, ↓exT_callo G28_20, ↓exT_calloG G28_20, c1, c2, hz, hkr, rec_snoc, go_sem, Nat.reduceAdd, Nat.reduceSub, Nat.reduceMul, Nat.reduceEqDiff, Nat.reduceLeDiff, Nat.reduceLT, Nat.reduceBEq, Int.reduceLE, Int.reduceLT, Int.reduceToNat, Int.reduceNeg, Int.reduceAdd, Int.reduceSub, Int.reduceMul, ↓reduceIte]
        exact ⟨by omega, by omega⟩
      · have h0l : was.length ≠ 0 := fun e => h0 (List.length_eq_zero_iff.1 e)
        obtain rfl := hk.resolve_right h0
        have hz : (0 : Int) < (was.length : Int) := by omega
        have hll := chain_mem hch _ (mem_getD (l := was) (i := was.length - 1) (by omega))
        have eix : ((was.length : Int) - 1).toNat = was.length - 1 := by omega
        have hge : (encs recE was).getD (was.length - 1) [] = recE (was.getD (was.length - 1) default) := encs_getN (by omega)
        have hix : (0 : Int) ≤ (was.length : Int) - 1 ∧ (was.length : Int) - 1 < (was.length : Int) := by omega
        have hmn : maxNum = 2147483647 := rfl
        have hN : (was.getD (was.length - 1) default).num + 1 = lastNum was + 1 := by rw [lastNum_ne h0]
        generalize lastNum was + 1 = N at *
        simp (maxSteps := 4000000) only [↓exT_call G28_24, ↓exT_callo G28_24, ↓exT_calloG G28_24, ↓exT_call G28_20, ↓exT_callo G28_20, ↓exT_calloG G28_20, c1, c2, hz, hix.1, hix.2, eix, hge, hN, rec_snoc, go_sem, Nat.reduceAdd, Nat.reduceSub, Nat.reduceMul, Nat.reduceEqDiff, Nat.reduceLeDiff, Nat.reduceLT, Nat.reduceBEq, Int.reduceLE, Int.reduceLT, Int.reduceToNat, Int.reduceNeg, Int.reduceAdd, Int.reduceSub, Int.reduceMul, ↓reduceIte]
        exact ⟨by omega, by omega, by omega, by omega⟩

end Go.Proofs.Ytniioedflegdkaa
