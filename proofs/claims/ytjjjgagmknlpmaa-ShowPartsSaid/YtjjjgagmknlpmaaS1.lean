/- The functions of package tree. -/
import Derived.Test.YtjjjgagmknlpmaaC1
import Derived.Test.YtjjjgagmknlpmaaTR1
import Derived.Test.YtjjjgagmknlpmaaAb31
set_option linter.all false
namespace Go.Proofs.Ytjjjgagmknlpmaa
open Go Go.Ab Go.Proofs Go.Fs
def lnE (l : Ln) : List S := [.int .i64 l.d, .str l.w, .int .i64 l.m]
theorem lnE_eq {l : Ln} : lnE l = [.int .i64 l.d, .str l.w, .int .i64 l.m] := nr rfl
theorem lnE_inj {a b : List Ln} : (encs lnE a = encs lnE b) = (a = b) := encs_inj fun x y e => by
  simp only [lnE, List.cons.injEq, S.int.injEq, S.str.injEq, true_and, and_true] at e
  cases x; cases y; simp_all
theorem eta_ln (l : Ln) : Ln.mk l.d l.w l.m = l := nr rfl
def numE (n : Int) : List S := [.int .i64 n]
theorem numE_eq {n : Int} : numE n = [.int .i64 n] := nr rfl
theorem numE_inj {a b : List Int} : (encs numE a = encs numE b) = (a = b) := encs_inj fun x y e => by
  simpa [numE] using e
theorem leB_eq {a b : Bs} : (Op.bytesLess a b || a == b) = leB a b := nr rfl
attribute [go_sem] lnE_eq eta_ln numE_eq leB_eq
def smallG_enc : (List Ln) × (Bool) → List V := fun ⟨t, f⟩ => [.c (.s (.list 3 (encs lnE t) f))]
theorem smallG_inj : ∀ x y, smallG_enc x = smallG_enc y → x = y := by
  rintro ⟨t, f⟩ ⟨t2, f2⟩ h
  simp only [smallG_enc, List.cons.injEq, V.c.injEq, V.agg.injEq, C.s.injEq, S.list.injEq, S.str.injEq, S.int.injEq, S.bool.injEq, S.fn.injEq, S.cref.injEq, strE_inj, true_and, and_true, lnE_inj] at h
  simp_all
noncomputable def smallG : List V → Option (V) := specE smallG_enc (fun ⟨t, f⟩ => True) (fun ⟨t, f⟩ => .c (.s (.bool (smallT t))))
theorem smallG_eq {t : List Ln} {f : Bool} [Decidable (True)] : smallG [.c (.s (.list 3 (encs lnE t) f))] = if True then some (.c (.s (.bool (smallT t)))) else none := specE_eq smallG_inj (t, f)
theorem smallG_call {t : List Ln} {f : Bool} {gt : Bool} {K : V → Prop} : callE smallG [.c (.s (.list 3 (encs lnE t) f))] gt K = bindV (ifV gt (.c (.s (.bool (smallT t))))) K := callE_all (by rw [smallG_eq]; rfl)
theorem smallG_callo {t : List Ln} {f : Bool} {m : Nat → Option Ab.Obj} {locs : List Nat} {K : V → (Nat → Option Ab.Obj) → Prop} : callO smallG (some [.c (.s (.list 3 (encs lnE t) f))]) m locs K = K (.c (.s (.bool (smallT t)))) (sealW m locs (.c (.s (.bool (smallT t))))) := callO_all (by rw [smallG_eq]; rfl)
attribute [go_sem] smallG_call smallG_callo

def sc_ref03_Small : SC := .seq (.reg [⟨some 2, .mv, [.k (.c (.s (.bool false)))], none⟩]) (.seq (.seq (.reg [⟨some 4, .mv, [.t 0], none⟩,
⟨some 5, .len false, [.t 4], none⟩,
⟨some 6, .bin .gtr, [.t 5, .k (.c (.s (.int .i64 220)))], none⟩]) (.cond (.t 6) (.seq (.reg [⟨some 2, .mv, [.k (.c (.s (.bool false)))], none⟩]) (.ret)) (.skip))) (.seq (.seq (.reg [⟨some 3, .mv, [.k (.c (.s (.int .i64 0)))], none⟩]) (.block 0 (.loop (.seq (.seq (.reg [⟨some 7, .mv, [.t 3], none⟩,
⟨some 8, .mv, [.t 0], none⟩,
⟨some 9, .len false, [.t 8], none⟩,
⟨some 10, .bin .lss, [.t 7, .t 9], none⟩]) (.cond (.t 10) (.skip) (.exit 0))) (.seq (.block 1 (.seq (.reg [⟨some 13, .mv, [.t 0], none⟩,
⟨some 14, .mv, [.t 3], none⟩,
⟨some 15, .iadr 3, [.t 13, .t 14], none⟩,
⟨some 16, .fadr 1, [.t 15], none⟩,
⟨some 17, .load 1 false, [.t 16], none⟩,
⟨some 18, .len true, [.t 17], none⟩,
⟨some 19, .bin .gtr, [.t 18, .k (.c (.s (.int .i64 100)))], none⟩]) (.cond (.t 19) (.seq (.reg [⟨some 2, .mv, [.k (.c (.s (.bool false)))], none⟩]) (.ret)) (.skip)))) (.reg [⟨some 11, .mv, [.t 3], none⟩,
⟨some 12, .bin .add, [.t 11, .k (.c (.s (.int .i64 1)))], none⟩,
⟨some 3, .mv, [.t 12], none⟩])))))) (.seq (.reg [⟨some 2, .mv, [.k (.c (.s (.bool true)))], none⟩]) (.ret))))
noncomputable def G_ref03_Small : FuncId → Ab.Spec := noS
theorem G_ref03_Small_ok : ∀ f, Contract Try.prog f (G_ref03_Small f) := (noS_ok _)
set_option maxHeartbeats 16000000 in
set_option maxRecDepth 1000000 in
set_option linter.unusedSimpArgs false in
set_option linter.unusedVariables false in
theorem contract_ref03_Small : Contract Try.prog 9 (plain smallG) := by
  have hb : ∃ c, Try.f9.body = some c ∧ codeOk 20 c = true ∧ cCode Try.prog c = sc_ref03_Small := ⟨_, rfl, by kernel_rfl, by kernel_rfl⟩
  obtain ⟨c, hb1, hb2, hb3⟩ := hb
  refine contract_of (n := 1) G_ref03_Small_ok hB hD Try.func9 hb1 (by kernel_rfl) hb2 hb3 (rs := [.tmp 2]) (by kernel_rfl) (by decide) ?_ ?_
  · intro args x h
    obtain ⟨y, hy, -⟩ := Option.map_eq_some_iff.1 h
    obtain ⟨⟨t, f⟩, rfl, -⟩ := specE_some hy
    rfl
  · intro args r hr
    obtain ⟨y, hy, rfl⟩ := Option.map_eq_some_iff.1 hr
    obtain ⟨⟨t, f⟩, rfl, hc, rfl⟩ := specE_some hy
    clear hr hy
    have hc : True := hc
    change awp _ _ (postQ _ (.v (.c (.s (.bool (smallT t)))))) _
    unfold smallG_enc sc_ref03_Small
    by_cases h : 220 < (t.length : Int)
    case pos =>
      have hs : smallT t = false := by unfold smallT; rw [decide_eq_false (by omega)]; rfl
      rw [hs]
      simp (maxSteps := 4000000) only [h, go_sem, Nat.reduceAdd, Nat.reduceSub, Nat.reduceMul, Nat.reduceEqDiff, Nat.reduceLeDiff, Nat.reduceLT, Nat.reduceBEq, Int.reduceLE, Int.reduceLT, Int.reduceToNat, Int.reduceNeg, Int.reduceAdd, Int.reduceSub, Int.reduceMul, ↓reduceIte]
    have hs0 : smallT t = t.all fun l => decide (l.w.length ≤ 100) := by unfold smallT; rw [decide_eq_true (by omega)]; rfl
    simp (maxSteps := 4000000) only [h, go_sem, Nat.reduceAdd, Nat.reduceSub, Nat.reduceMul, Nat.reduceEqDiff, Nat.reduceLeDiff, Nat.reduceLT, Nat.reduceBEq, Int.reduceLE, Int.reduceLT, Int.reduceToNat, Int.reduceNeg, Int.reduceAdd, Int.reduceSub, Int.reduceMul, ↓reduceIte]
    refine awp_loopM (α := Nat) (fun i => [(0, .c (.s (.list 3 (encs lnE t) f))), (3, .c (.s (.int .i64 i)))]) (fun _ => []) (fun i => t.length - i) 0 (fun i => i ≤ t.length ∧ ∀ l ∈ t.take i, l.w.length ≤ 100) ⟨Nat.zero_le _, by simp⟩ (Weak.meets ?_) ?_
    · simp (maxSteps := 4000000) only [go_sem, Nat.reduceAdd, Nat.reduceSub, Nat.reduceMul, Nat.reduceEqDiff, Nat.reduceLeDiff, Nat.reduceLT, Nat.reduceBEq, Int.reduceLE, Int.reduceLT, Int.reduceToNat, Int.reduceNeg, Int.reduceAdd, Int.reduceSub, Int.reduceMul, ↓reduceIte]
      rfl
    rintro x ⟨hx, hw⟩
    by_cases hxl : x < t.length
    · have hxi : (x : Int) < (t.length : Int) := by omega
      by_cases h6 : 100 < (((t.getD x default).w.length : Nat) : Int)
      · have hf : smallT t = false := by
          rw [hs0, List.all_eq_false]
          exact ⟨_, mem_getD hxl, by simp only [decide_eq_true_eq]; omega⟩
        rw [hf]
        simp (maxSteps := 4000000) only [hxi, h6, go_sem, Nat.reduceAdd, Nat.reduceSub, Nat.reduceMul, Nat.reduceEqDiff, Nat.reduceLeDiff, Nat.reduceLT, Nat.reduceBEq, Int.reduceLE, Int.reduceLT, Int.reduceToNat, Int.reduceNeg, Int.reduceAdd, Int.reduceSub, Int.reduceMul, ↓reduceIte]
      · simp (maxSteps := 4000000) only [hxi, h6, go_sem, Nat.reduceAdd, Nat.reduceSub, Nat.reduceMul, Nat.reduceEqDiff, Nat.reduceLeDiff, Nat.reduceLT, Nat.reduceBEq, Int.reduceLE, Int.reduceLT, Int.reduceToNat, Int.reduceNeg, Int.reduceAdd, Int.reduceSub, Int.reduceMul, ↓reduceIte]
        exact ⟨by omega, x + 1, ⟨by omega, take_all hxl hw (by omega)⟩, by omega, by simp⟩
    · have hxi : ¬ (x : Int) < (t.length : Int) := by omega
      obtain rfl : x = t.length := by omega
      rw [List.take_length] at hw
      have ht : smallT t = true := by rw [hs0, List.all_eq_true]; intro l hl; exact decide_eq_true (hw l hl)
      rw [ht]
      simp (maxSteps := 4000000) only [hxi, go_sem, Nat.reduceAdd, Nat.reduceSub, Nat.reduceMul, Nat.reduceEqDiff, Nat.reduceLeDiff, Nat.reduceLT, Nat.reduceBEq, Int.reduceLE, Int.reduceLT, Int.reduceToNat, Int.reduceNeg, Int.reduceAdd, Int.reduceSub, Int.reduceMul, ↓reduceIte]

def sameLnG_enc : (List Ln) × (Bool) × (List Ln) × (Bool) → List V := fun ⟨l, f, q, g⟩ => [.c (.s (.list 3 (encs lnE l) f)), .c (.s (.list 3 (encs lnE q) g))]
theorem sameLnG_inj : ∀ x y, sameLnG_enc x = sameLnG_enc y → x = y := by
  rintro ⟨l, f, q, g⟩ ⟨l2, f2, q2, g2⟩ h
  simp only [sameLnG_enc, List.cons.injEq, V.c.injEq, V.agg.injEq, C.s.injEq, S.list.injEq, S.str.injEq, S.int.injEq, S.bool.injEq, S.fn.injEq, S.cref.injEq, strE_inj, true_and, and_true, lnE_inj] at h
  simp_all
noncomputable def sameLnG : List V → Option (V) := specE sameLnG_enc (fun ⟨l, f, q, g⟩ => l.length < 4000000) (fun ⟨l, f, q, g⟩ => .c (.s (.bool (decide (l = q)))))
theorem sameLnG_eq {l : List Ln} {f : Bool} {q : List Ln} {g : Bool} [Decidable (l.length < 4000000)] : sameLnG [.c (.s (.list 3 (encs lnE l) f)), .c (.s (.list 3 (encs lnE q) g))] = if l.length < 4000000 then some (.c (.s (.bool (decide (l = q))))) else none := specE_eq sameLnG_inj (l, f, q, g)
theorem sameLnG_call {l : List Ln} {f : Bool} {q : List Ln} {g : Bool} {gt : Bool} {K : V → Prop} : callE sameLnG [.c (.s (.list 3 (encs lnE l) f)), .c (.s (.list 3 (encs lnE q) g))] gt K = ((gt = true → l.length < 4000000) ∧ bindV (ifV gt (.c (.s (.bool (decide (l = q)))))) K) := by
  have := Classical.propDecidable (l.length < 4000000)
  exact callE_of sameLnG_eq
theorem sameLnG_callo {l : List Ln} {f : Bool} {q : List Ln} {g : Bool} {m : Nat → Option Ab.Obj} {locs : List Nat} {K : V → (Nat → Option Ab.Obj) → Prop} : callO sameLnG (some [.c (.s (.list 3 (encs lnE l) f)), .c (.s (.list 3 (encs lnE q) g))]) m locs K = ((l.length < 4000000) ∧ K (.c (.s (.bool (decide (l = q))))) (sealW m locs (.c (.s (.bool (decide (l = q))))))) := by
  have := Classical.propDecidable (l.length < 4000000)
  exact callO_of sameLnG_eq
attribute [go_sem] sameLnG_call sameLnG_callo

def sc_ref03_Same : SC := .seq (.reg [⟨some 4, .mv, [.k (.c (.s (.bool false)))], none⟩]) (.seq (.seq (.reg [⟨some 6, .mv, [.t 0], none⟩,
⟨some 7, .len false, [.t 6], none⟩,
⟨some 8, .mv, [.t 1], none⟩,
⟨some 9, .len false, [.t 8], none⟩,
⟨some 10, .bin .neq, [.t 7, .t 9], none⟩]) (.cond (.t 10) (.seq (.reg [⟨some 4, .mv, [.k (.c (.s (.bool false)))], none⟩]) (.ret)) (.skip))) (.seq (.seq (.reg [⟨some 5, .mv, [.k (.c (.s (.int .i64 0)))], none⟩]) (.block 0 (.loop (.seq (.seq (.reg [⟨some 11, .mv, [.t 5], none⟩,
⟨some 12, .mv, [.t 0], none⟩,
⟨some 13, .len false, [.t 12], none⟩,
⟨some 14, .bin .lss, [.t 11, .t 13], none⟩]) (.cond (.t 14) (.skip) (.exit 0))) (.seq (.block 1 (.seq (.regD [⟨some 17, .mv, [.t 0], none⟩,
⟨some 18, .mv, [.t 5], none⟩,
⟨some 19, .iadr 3, [.t 17, .t 18], none⟩,
⟨some 20, .load 3 true, [.t 19], none⟩,
⟨some 21, .mv, [.t 1], none⟩,
⟨some 22, .mv, [.t 5], none⟩,
⟨some 23, .iadr 3, [.t 21, .t 22], none⟩,
⟨some 24, .load 3 true, [.t 23], none⟩,
⟨some 25, .eqA true [1, 2, 1], [.t 20, .t 24], none⟩] []) (.cond (.t 25) (.seq (.reg [⟨some 4, .mv, [.k (.c (.s (.bool false)))], none⟩]) (.ret)) (.skip)))) (.reg [⟨some 15, .mv, [.t 5], none⟩,
⟨some 16, .bin .add, [.t 15, .k (.c (.s (.int .i64 1)))], none⟩,
⟨some 5, .mv, [.t 16], none⟩])))))) (.seq (.reg [⟨some 4, .mv, [.k (.c (.s (.bool true)))], none⟩]) (.ret))))
noncomputable def G_ref03_Same : FuncId → Ab.Spec := noS
theorem G_ref03_Same_ok : ∀ f, Contract Try.prog f (G_ref03_Same f) := (noS_ok _)
set_option maxHeartbeats 16000000 in
set_option maxRecDepth 1000000 in
set_option linter.unusedSimpArgs false in
set_option linter.unusedVariables false in
theorem contract_ref03_Same : Contract Try.prog 16 (plain sameLnG) := by
  have hb : ∃ c, Try.f16.body = some c ∧ codeOk 26 c = true ∧ cCode Try.prog c = sc_ref03_Same := ⟨_, rfl, by kernel_rfl, by kernel_rfl⟩
  obtain ⟨c, hb1, hb2, hb3⟩ := hb
  refine contract_of (n := 2) G_ref03_Same_ok hB hD Try.func16 hb1 (by kernel_rfl) hb2 hb3 (rs := [.tmp 4]) (by kernel_rfl) (by decide) ?_ ?_
  · intro args x h
    obtain ⟨y, hy, -⟩ := Option.map_eq_some_iff.1 h
    obtain ⟨⟨l, f, q, g⟩, rfl, -⟩ := specE_some hy
    rfl
  · intro args r hr
    obtain ⟨y, hy, rfl⟩ := Option.map_eq_some_iff.1 hr
    obtain ⟨⟨l, f, q, g⟩, rfl, hc, rfl⟩ := specE_some hy
    clear hr hy
    have hc : l.length < 4000000 := hc
    change awp _ _ (postQ _ (.v (.c (.s (.bool (decide (l = q))))))) _
    unfold sameLnG_enc sc_ref03_Same
    by_cases h1 : l.length = q.length
    case neg =>
      have hi : ¬ (l.length : Int) = (q.length : Int) := by omega
      have hn : ¬ l = q := fun h => h1 (by rw [h])
      simp (maxSteps := 4000000) only [hi, hn, go_sem, Nat.reduceAdd, Nat.reduceSub, Nat.reduceMul, Nat.reduceEqDiff, Nat.reduceLeDiff, Nat.reduceLT, Nat.reduceBEq, Int.reduceLE, Int.reduceLT, Int.reduceToNat, Int.reduceNeg, Int.reduceAdd, Int.reduceSub, Int.reduceMul, ↓reduceIte]
    have hi : (l.length : Int) = (q.length : Int) := by omega
    simp (maxSteps := 4000000) only [hi, go_sem, Nat.reduceAdd, Nat.reduceSub, Nat.reduceMul, Nat.reduceEqDiff, Nat.reduceLeDiff, Nat.reduceLT, Nat.reduceBEq, Int.reduceLE, Int.reduceLT, Int.reduceToNat, Int.reduceNeg, Int.reduceAdd, Int.reduceSub, Int.reduceMul, ↓reduceIte]
    refine awp_loopM (α := Nat) (fun i => [(0, .c (.s (.list 3 (encs lnE l) f))), (1, .c (.s (.list 3 (encs lnE q) g))), (5, .c (.s (.int .i64 i)))]) (fun _ => []) (fun i => l.length - i) 0 (fun i => i ≤ l.length ∧ l.take i = q.take i) ⟨Nat.zero_le _, by simp⟩ (Weak.meets ?_) ?_
    · simp (maxSteps := 4000000) only [go_sem, Nat.reduceAdd, Nat.reduceSub, Nat.reduceMul, Nat.reduceEqDiff, Nat.reduceLeDiff, Nat.reduceLT, Nat.reduceBEq, Int.reduceLE, Int.reduceLT, Int.reduceToNat, Int.reduceNeg, Int.reduceAdd, Int.reduceSub, Int.reduceMul, ↓reduceIte]
      simp
    rintro x ⟨hx, hw⟩
    by_cases hxl : x < l.length
    · have hxi : (x : Int) < (l.length : Int) := by omega
      have hxi' : (x : Int) < (q.length : Int) := by omega
      by_cases h6 : l.getD x default = q.getD x default
      · have ht : l.take (x + 1) = q.take (x + 1) := by rw [take_getD hxl, take_getD (by omega), hw, h6]
        simp (maxSteps := 4000000) only [hxi, hxi', h6, go_sem, Nat.reduceAdd, Nat.reduceSub, Nat.reduceMul, Nat.reduceEqDiff, Nat.reduceLeDiff, Nat.reduceLT, Nat.reduceBEq, Int.reduceLE, Int.reduceLT, Int.reduceToNat, Int.reduceNeg, Int.reduceAdd, Int.reduceSub, Int.reduceMul, ↓reduceIte]
        exact ⟨by omega, x + 1, ⟨by omega, ht⟩, by omega, by omega⟩
      · have hn : ¬ l = q := fun h => h6 (by rw [h])
        simp (maxSteps := 4000000) only [hxi, hxi', hn, go_sem, Nat.reduceAdd, Nat.reduceSub, Nat.reduceMul, Nat.reduceEqDiff, Nat.reduceLeDiff, Nat.reduceLT, Nat.reduceBEq, Int.reduceLE, Int.reduceLT, Int.reduceToNat, Int.reduceNeg, Int.reduceAdd, Int.reduceSub, Int.reduceMul, ↓reduceIte]
        rintro ⟨e1, e2, e3⟩
        exfalso; apply h6
        cases h7 : l.getD x default with | mk s1 w1 m1 => cases h8 : q.getD x default with | mk s2 w2 m2 =>
        rw [h7, h8] at e1 e2 e3; simp only at e1 e2 e3; rw [e1, e2, e3]
    have hxi : ¬ (x : Int) < (l.length : Int) := by omega
    obtain rfl : x = l.length := by omega
    rw [List.take_length, h1, List.take_length] at hw
    subst hw
    simp (maxSteps := 4000000) only [hxi, go_sem, Nat.reduceAdd, Nat.reduceSub, Nat.reduceMul, Nat.reduceEqDiff, Nat.reduceLeDiff, Nat.reduceLT, Nat.reduceBEq, Int.reduceLE, Int.reduceLT, Int.reduceToNat, Int.reduceNeg, Int.reduceAdd, Int.reduceSub, Int.reduceMul, ↓reduceIte]

def soundG : List V → Option V
  | [.agg [.s (.int .i64 a), .s (.str w), .s (.int .i64 b)]] => some (.c (.s (.bool (soundB ⟨a, w, b⟩))))
  | _ => none
theorem soundG_call {a : Int} {w : Bs} {b : Int} {gt : Bool} {K : V → Prop} : callE soundG [.agg [.s (.int .i64 a), .s (.str w), .s (.int .i64 b)]] gt K = bindV (ifV gt (.c (.s (.bool (soundB ⟨a, w, b⟩))))) K := callE_all rfl
theorem soundG_callo {a : Int} {w : Bs} {b : Int} {m : Nat → Option Ab.Obj} {locs : List Nat} {K : V → (Nat → Option Ab.Obj) → Prop} : callO soundG (some [.agg [.s (.int .i64 a), .s (.str w), .s (.int .i64 b)]]) m locs K = K (.c (.s (.bool (soundB ⟨a, w, b⟩)))) (sealW m locs (.c (.s (.bool (soundB ⟨a, w, b⟩))))) := callO_all rfl
attribute [go_sem] soundG_call soundG_callo

def sc_tree_sound : SC := .seq (.reg [⟨some 1, .box 3, [.t 0], none⟩,
⟨some 2, .mv, [.k (.c (.s (.bool false)))], none⟩]) (.seq (.reg [⟨some 3, .fadr 0, [.t 1], none⟩,
⟨some 4, .load 1 false, [.t 3], none⟩,
⟨some 5, .bin .geq, [.t 4, .k (.c (.s (.int .i64 0)))], none⟩,
⟨some 6, .mv, [.t 5], none⟩,
⟨some 7, .fadr 0, [.t 1], some (6, true)⟩,
⟨some 8, .load 1 false, [.t 7], some (6, true)⟩,
⟨some 9, .bin .lss, [.t 8, .k (.c (.s (.int .i64 16)))], some (6, true)⟩,
⟨some 10, .pick, [.t 6, .t 9, .k (.c (.s (.bool false)))], none⟩,
⟨some 11, .mv, [.t 10], none⟩,
⟨some 12, .fadr 1, [.t 1], some (11, true)⟩,
⟨some 13, .load 1 false, [.t 12], some (11, true)⟩,
⟨some 14, .len true, [.t 13], some (11, true)⟩,
⟨some 15, .bin .leq, [.t 14, .k (.c (.s (.int .i64 40)))], some (11, true)⟩,
⟨some 16, .pick, [.t 11, .t 15, .k (.c (.s (.bool false)))], none⟩,
⟨some 17, .mv, [.t 16], none⟩,
⟨some 18, .fadr 2, [.t 1], some (17, true)⟩,
⟨some 19, .load 1 false, [.t 18], some (17, true)⟩,
⟨some 20, .bin .geq, [.t 19, .k (.c (.s (.int .i64 0)))], some (17, true)⟩,
⟨some 21, .pick, [.t 17, .t 20, .k (.c (.s (.bool false)))], none⟩,
⟨some 22, .mv, [.t 21], none⟩,
⟨some 23, .fadr 2, [.t 1], some (22, true)⟩,
⟨some 24, .load 1 false, [.t 23], some (22, true)⟩,
⟨some 25, .bin .leq, [.t 24, .k (.c (.s (.int .i64 3)))], some (22, true)⟩,
⟨some 26, .pick, [.t 22, .t 25, .k (.c (.s (.bool false)))], none⟩,
⟨some 2, .mv, [.t 26], none⟩]) (.ret))
noncomputable def G_tree_sound : FuncId → Ab.Spec := noS
theorem G_tree_sound_ok : ∀ f, Contract Try.prog f (G_tree_sound f) := (noS_ok _)
set_option maxHeartbeats 16000000 in
set_option maxRecDepth 1000000 in
set_option linter.unusedSimpArgs false in
set_option linter.unusedVariables false in
theorem contract_tree_sound : Contract Try.prog 31 (plain soundG) := by
  have hb : ∃ c, Try.f31.body = some c ∧ codeOk 27 c = true ∧ cCode Try.prog c = sc_tree_sound := ⟨_, rfl, by kernel_rfl, by kernel_rfl⟩
  obtain ⟨c, hb1, hb2, hb3⟩ := hb
  refine contract_of (n := 1) G_tree_sound_ok hB hD Try.func31 hb1 (by kernel_rfl) hb2 hb3 (rs := [.tmp 2]) (by kernel_rfl) (by decide) ?_ ?_
  · intro args x h
    unfold plain soundG at h
    split at h <;> simp_all
  · intro args r hr
    unfold plain soundG at hr
    split at hr
    case h_2 => cases hr
    rename_i a w b
    simp only [Option.map_some, Option.some.injEq] at hr
    subst hr
    unfold sc_tree_sound
    have hs : soundB ⟨a, w, b⟩ = (decide (0 ≤ a) && decide (a < 16) && decide ((w.length : Int) ≤ 40) && decide (0 ≤ b) && decide (b ≤ 3)) := by
      unfold soundB; simp only; congr 3; exact decide_eq_decide.2 (by omega)
    rw [hs]
    by_cases h1 : 0 ≤ a
    · by_cases h2 : a < 16
      · by_cases h3 : (w.length : Int) ≤ 40
        · by_cases h4 : 0 ≤ b
          · simp (maxSteps := 4000000) only [h1, h2, h3, h4, decide_true, go_sem, Nat.reduceAdd, Nat.reduceSub, Nat.reduceMul, Nat.reduceEqDiff, Nat.reduceLeDiff, Nat.reduceLT, Nat.reduceBEq, Int.reduceLE, Int.reduceLT, Int.reduceToNat, Int.reduceNeg, Int.reduceAdd, Int.reduceSub, Int.reduceMul, ↓reduceIte]
          · simp (maxSteps := 4000000) only [h1, h2, h3, h4, go_sem, Nat.reduceAdd, Nat.reduceSub, Nat.reduceMul, Nat.reduceEqDiff, Nat.reduceLeDiff, Nat.reduceLT, Nat.reduceBEq, Int.reduceLE, Int.reduceLT, Int.reduceToNat, Int.reduceNeg, Int.reduceAdd, Int.reduceSub, Int.reduceMul, ↓reduceIte]
        · simp (maxSteps := 4000000) only [h1, h2, h3, go_sem, Nat.reduceAdd, Nat.reduceSub, Nat.reduceMul, Nat.reduceEqDiff, Nat.reduceLeDiff, Nat.reduceLT, Nat.reduceBEq, Int.reduceLE, Int.reduceLT, Int.reduceToNat, Int.reduceNeg, Int.reduceAdd, Int.reduceSub, Int.reduceMul, ↓reduceIte]
      · simp (maxSteps := 4000000) only [h1, h2, go_sem, Nat.reduceAdd, Nat.reduceSub, Nat.reduceMul, Nat.reduceEqDiff, Nat.reduceLeDiff, Nat.reduceLT, Nat.reduceBEq, Int.reduceLE, Int.reduceLT, Int.reduceToNat, Int.reduceNeg, Int.reduceAdd, Int.reduceSub, Int.reduceMul, ↓reduceIte]
    · simp (maxSteps := 4000000) only [h1, go_sem, Nat.reduceAdd, Nat.reduceSub, Nat.reduceMul, Nat.reduceEqDiff, Nat.reduceLeDiff, Nat.reduceLT, Nat.reduceBEq, Int.reduceLE, Int.reduceLT, Int.reduceToNat, Int.reduceNeg, Int.reduceAdd, Int.reduceSub, Int.reduceMul, ↓reduceIte]

end Go.Proofs.Ytjjjgagmknlpmaa
