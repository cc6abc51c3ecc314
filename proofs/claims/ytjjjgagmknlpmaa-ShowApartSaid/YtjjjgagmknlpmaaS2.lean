/- The functions of package tree: a tree. -/
import Derived.Test.YtjjjgagmknlpmaaS1
set_option linter.all false
namespace Go.Proofs.Ytjjjgagmknlpmaa
open Go Go.Ab Go.Proofs Go.Fs
def arrC (a : List Bs) : List C := a.map fun w => .s (.str w)
theorem arr_init : arrC (List.replicate 16 []) = [.s (.str []), .s (.str []), .s (.str []), .s (.str []), .s (.str []), .s (.str []), .s (.str []), .s (.str []), .s (.str []), .s (.str []), .s (.str []), .s (.str []), .s (.str []), .s (.str []), .s (.str []), .s (.str [])] := rfl
theorem arr_drop {a : List Bs} {k : Nat} (h : k < a.length) : (arrC a).drop k = C.s (.str (a.getD k [])) :: (arrC a).drop (k + 1) := by
  unfold arrC
  rw [List.drop_eq_getElem_cons (by rw [List.length_map]; exact h)]
  simp [List.getD_eq_getElem?_getD, List.getElem?_eq_getElem h]
theorem arr_splice {a : List Bs} {k : Nat} {w : Bs} (h : k < a.length) : splice (arrC a) k [C.s (.str w)] = arrC (a.set k w) := by
  unfold splice arrC
  rw [List.map_set, List.set_eq_take_append_cons_drop, if_pos (by rw [List.length_map]; exact h)]
  simp
theorem arr_len {a : List Bs} : (arrC a).length = a.length := by simp [arrC]
theorem arr_fit {m : Nat → Option Ab.Obj} {ks : List Nat} : ∀ (a : List Bs), CsFit m ks (arrC a) (arrC a)
  | [] => trivial
  | w :: a => ⟨by simp [CFit], arr_fit a⟩
def rightG_enc : (List Ln) × (Bool) → List V := fun ⟨t, f⟩ => [.c (.s (.list 3 (encs lnE t) f))]
theorem rightG_inj : ∀ x y, rightG_enc x = rightG_enc y → x = y := by
  rintro ⟨t, f⟩ ⟨t2, f2⟩ h
  simp only [rightG_enc, List.cons.injEq, V.c.injEq, V.agg.injEq, C.s.injEq, S.list.injEq, S.str.injEq, S.int.injEq, S.bool.injEq, S.fn.injEq, S.cref.injEq, strE_inj, true_and, and_true, lnE_inj] at h
  simp_all
noncomputable def rightG : List V → Option (V) := specE rightG_enc (fun ⟨t, f⟩ => True) (fun ⟨t, f⟩ => .c (.s (.bool (rightT t))))
theorem rightG_eq {t : List Ln} {f : Bool} [Decidable (True)] : rightG [.c (.s (.list 3 (encs lnE t) f))] = if True then some (.c (.s (.bool (rightT t)))) else none := specE_eq rightG_inj (t, f)
theorem rightG_call {t : List Ln} {f : Bool} {gt : Bool} {K : V → Prop} : callE rightG [.c (.s (.list 3 (encs lnE t) f))] gt K = bindV (ifV gt (.c (.s (.bool (rightT t))))) K := callE_all (by rw [rightG_eq]; rfl)
theorem rightG_callo {t : List Ln} {f : Bool} {m : Nat → Option Ab.Obj} {locs : List Nat} {K : V → (Nat → Option Ab.Obj) → Prop} : callO rightG (some [.c (.s (.list 3 (encs lnE t) f))]) m locs K = K (.c (.s (.bool (rightT t)))) (sealW m locs (.c (.s (.bool (rightT t))))) := callO_all (by rw [rightG_eq]; rfl)
attribute [go_sem] rightG_call rightG_callo

def sc_tree_Right : SC := .seq (.reg [⟨some 2, .mv, [.k (.c (.s (.bool false)))], none⟩]) (.seq (.seq (.reg [⟨some 7, .mv, [.t 0], none⟩,
⟨some 8, .len false, [.t 7], none⟩,
⟨some 9, .bin .gtr, [.t 8, .k (.c (.s (.int .i64 200)))], none⟩]) (.cond (.t 9) (.seq (.reg [⟨some 2, .mv, [.k (.c (.s (.bool false)))], none⟩]) (.ret)) (.skip))) (.seq (.reg [⟨some 3, .alloc [.str [], .str [], .str [], .str [], .str [], .str [], .str [], .str [], .str [], .str [], .str [], .str [], .str [], .str [], .str [], .str []], [], none⟩]) (.seq (.reg [⟨some 4, .mv, [.k (.c (.s (.int .i64 (-1))))], none⟩]) (.seq (.seq (.reg [⟨some 10, .mv, [.t 0], none⟩,
⟨some 11, .len false, [.t 10], none⟩,
⟨some 12, .mv, [.k (.c (.s (.int .i64 0)))], none⟩]) (.block 0 (.loop (.seq (.reg [⟨some 13, .bin .lss, [.t 12, .t 11], none⟩]) (.seq (.cond (.t 13) (.skip) (.exit 0)) (.seq (.block 1 (.seq (.reg [⟨some 14, .iadr 3, [.t 10, .t 12], none⟩,
⟨some 15, .load 3 true, [.t 14], none⟩,
⟨some 6, .alloc [.int .i64 0, .str [], .int .i64 0], [], none⟩,
⟨none, .store 3 true, [.t 6, .t 15], none⟩]) (.seq (.seq (.regD [⟨some 16, .load 3 true, [.t 6], none⟩,
⟨some 17, .call 31, [.t 16], none⟩,
⟨some 18, .not, [.t 17], none⟩,
⟨some 19, .mv, [.t 18], none⟩,
⟨some 20, .fadr 0, [.t 6], some (19, false)⟩,
⟨some 21, .load 1 false, [.t 20], some (19, false)⟩,
⟨some 22, .mv, [.t 4], some (19, false)⟩,
⟨some 23, .bin .add, [.t 22, .k (.c (.s (.int .i64 1)))], some (19, false)⟩,
⟨some 24, .bin .gtr, [.t 21, .t 23], some (19, false)⟩,
⟨some 25, .pick, [.t 19, .k (.c (.s (.bool true))), .t 24], none⟩,
⟨some 26, .mv, [.t 25], none⟩,
⟨some 27, .fadr 0, [.t 6], some (26, false)⟩,
⟨some 28, .load 1 false, [.t 27], some (26, false)⟩,
⟨some 29, .mv, [.t 4], some (26, false)⟩,
⟨some 30, .bin .leq, [.t 28, .t 29], some (26, false)⟩,
⟨some 31, .mv, [.t 30], some (26, false)⟩,
⟨some 32, .fadr 1, [.t 6], some (31, true)⟩,
⟨some 33, .load 1 false, [.t 32], some (31, true)⟩,
⟨some 34, .fadr 0, [.t 6], some (31, true)⟩,
⟨some 35, .load 1 false, [.t 34], some (31, true)⟩,
⟨some 36, .iadrP 16 1, [.t 3, .t 35], some (31, true)⟩,
⟨some 37, .load 1 false, [.t 36], some (31, true)⟩,
⟨some 38, .bin .leq, [.t 33, .t 37], some (31, true)⟩,
⟨some 39, .pick, [.t 31, .t 38, .k (.c (.s (.bool false)))], some (26, false)⟩,
⟨some 40, .pick, [.t 26, .k (.c (.s (.bool true))), .t 39], none⟩] []) (.cond (.t 40) (.seq (.reg [⟨some 2, .mv, [.k (.c (.s (.bool false)))], none⟩]) (.ret)) (.skip))) (.seq (.reg [⟨some 41, .fadr 0, [.t 6], none⟩,
⟨some 42, .load 1 false, [.t 41], none⟩,
⟨some 4, .mv, [.t 42], none⟩]) (.reg [⟨some 43, .mv, [.t 4], none⟩,
⟨some 44, .fadr 1, [.t 6], none⟩,
⟨some 45, .load 1 false, [.t 44], none⟩,
⟨some 46, .iadrP 16 1, [.t 3, .t 43], none⟩,
⟨none, .store 1 false, [.t 46, .t 45], none⟩]))))) (.reg [⟨some 47, .bin .add, [.t 12, .k (.c (.s (.int .i64 1)))], none⟩,
⟨some 12, .mv, [.t 47], none⟩]))))))) (.seq (.reg [⟨some 2, .mv, [.k (.c (.s (.bool true)))], none⟩]) (.ret))))))
noncomputable def G_tree_Right : FuncId → Ab.Spec := addS (noS) 31 (plain soundG)
theorem G_tree_Right_ok : ∀ f, Contract Try.prog f (G_tree_Right f) := (addS_ok (noS_ok _) contract_tree_sound)
theorem G19_31 : G_tree_Right 31 = plain soundG := by simp [G_tree_Right, addS]
set_option maxHeartbeats 16000000 in
set_option maxRecDepth 1000000 in
set_option linter.unusedSimpArgs false in
set_option linter.unusedVariables false in
theorem contract_tree_Right : Contract Try.prog 19 (plain rightG) := by
  have hb : ∃ c, Try.f19.body = some c ∧ codeOk 48 c = true ∧ cCode Try.prog c = sc_tree_Right := ⟨_, rfl, by kernel_rfl, by kernel_rfl⟩
  obtain ⟨c, hb1, hb2, hb3⟩ := hb
  refine contract_of (n := 1) G_tree_Right_ok hB hD Try.func19 hb1 (by kernel_rfl) hb2 hb3 (rs := [.tmp 2]) (by kernel_rfl) (by decide) ?_ ?_
  · intro args x h
    obtain ⟨y, hy, -⟩ := Option.map_eq_some_iff.1 h
    obtain ⟨⟨t, f⟩, rfl, -⟩ := specE_some hy
    rfl
  · intro args r hr
    obtain ⟨y, hy, rfl⟩ := Option.map_eq_some_iff.1 hr
    obtain ⟨⟨t, f⟩, rfl, hc, rfl⟩ := specE_some hy
    clear hr hy
    have hc : True := hc
    change awp _ _ (postQ _ (.v (.c (.s (.bool (rightT t)))))) _
    unfold rightG_enc sc_tree_Right
    by_cases h : 200 < (t.length : Int)
    case pos =>
      have hs : rightT t = false := by unfold rightT; rw [decide_eq_false (by omega)]; rfl
      rw [hs]
      simp (maxSteps := 4000000) only [↓exT_call G19_31, ↓exT_callo G19_31, ↓exT_calloG G19_31, h, go_sem, Nat.reduceAdd, Nat.reduceSub, Nat.reduceMul, Nat.reduceEqDiff, Nat.reduceLeDiff, Nat.reduceLT, Nat.reduceBEq, Int.reduceLE, Int.reduceLT, Int.reduceToNat, Int.reduceNeg, Int.reduceAdd, Int.reduceSub, Int.reduceMul, ↓reduceIte]
    have hs0 : rightT t = goS [] t := by unfold rightT; rw [decide_eq_true (by omega)]; rfl
    simp (maxSteps := 4000000) only [↓exT_call G19_31, ↓exT_callo G19_31, ↓exT_calloG G19_31, h, go_sem, Nat.reduceAdd, Nat.reduceSub, Nat.reduceMul, Nat.reduceEqDiff, Nat.reduceLeDiff, Nat.reduceLT, Nat.reduceBEq, Int.reduceLE, Int.reduceLT, Int.reduceToNat, Int.reduceNeg, Int.reduceAdd, Int.reduceSub, Int.reduceMul, ↓reduceIte]
    refine awp_loopM (α := Nat × List Bs) (fun y => [(3, .c (.ptr 3 0)), (4, .c (.s (.int .i64 ((pathS [] (t.take y.1)).length - 1)))), (10, .c (.s (.list 3 (encs lnE t) f))), (11, .c (.s (.int .i64 t.length))), (12, .c (.s (.int .i64 y.1)))])
      (fun y => [(3, .box (arrC y.2))]) (fun y => t.length - y.1) (0, List.replicate 16 []) (fun y => y.1 ≤ t.length ∧ y.2.length = 16 ∧ y.2.take (pathS [] (t.take y.1)).length = pathS [] (t.take y.1) ∧ goS [] (t.take y.1) = true) ⟨Nat.zero_le _, rfl, rfl, rfl⟩ (Weak.meets ?_) ?_
    · simp (maxSteps := 4000000) only [↓exT_call G19_31, ↓exT_callo G19_31, ↓exT_calloG G19_31, arr_init, go_sem, Nat.reduceAdd, Nat.reduceSub, Nat.reduceMul, Nat.reduceEqDiff, Nat.reduceLeDiff, Nat.reduceLT, Nat.reduceBEq, Int.reduceLE, Int.reduceLT, Int.reduceToNat, Int.reduceNeg, Int.reduceAdd, Int.reduceSub, Int.reduceMul, ↓reduceIte]
      exact ⟨rfl, rfl⟩
    rintro ⟨x, a⟩ ⟨hx, ha, hp, hg⟩
    simp only at hx ha hp hg
    by_cases hxl : x < t.length
    case neg =>
      have hxi : ¬ (x : Int) < (t.length : Int) := by omega
      obtain rfl : x = t.length := by omega
      rw [List.take_length] at hg
      rw [hs0, hg]
      simp (maxSteps := 4000000) only [↓exT_call G19_31, ↓exT_callo G19_31, ↓exT_calloG G19_31, hxi, go_sem, Nat.reduceAdd, Nat.reduceSub, Nat.reduceMul, Nat.reduceEqDiff, Nat.reduceLeDiff, Nat.reduceLT, Nat.reduceBEq, Int.reduceLE, Int.reduceLT, Int.reduceToNat, Int.reduceNeg, Int.reduceAdd, Int.reduceSub, Int.reduceMul, ↓reduceIte]
    have hxi : (x : Int) < (t.length : Int) := by omega
    have hgs := goS_snoc (t.take x) [] (t.getD x default)
    rw [← take_getD hxl, hg, Bool.true_and] at hgs
    have hps := pathS_snoc (t.take x) [] (t.getD x default)
    rw [← take_getD hxl] at hps
    have hbad : goS [] (t.take (x + 1)) = false → rightT t = false := fun h => by
      rw [hs0]
      cases hc : goS [] t with
      | false => rfl
      | true =>
        rw [← List.take_append_drop (x + 1) t] at hc
        rw [goS_prefix hc] at h; cases h
    generalize hl : t.getD x default = l at *
    obtain ⟨d, w, m⟩ := l
    generalize hst : pathS [] (t.take x) = st at *
    have hok : okAt st ⟨d, w, m⟩ = (soundB ⟨d, w, m⟩ && decide (d ≤ st.length) && !(decide (d < st.length) && leB w (st.getD d.toNat []))) := rfl
    by_cases h1 : soundB ⟨d, w, m⟩ = true
    case neg =>
      have h1' : soundB ⟨d, w, m⟩ = false := by simpa using h1
      rw [hbad (by rw [hgs, hok, h1']; rfl)]
      simp (maxSteps := 4000000) only [↓exT_call G19_31, ↓exT_callo G19_31, ↓exT_calloG G19_31, hxi, hl, h1', go_sem, Nat.reduceAdd, Nat.reduceSub, Nat.reduceMul, Nat.reduceEqDiff, Nat.reduceLeDiff, Nat.reduceLT, Nat.reduceBEq, Int.reduceLE, Int.reduceLT, Int.reduceToNat, Int.reduceNeg, Int.reduceAdd, Int.reduceSub, Int.reduceMul, ↓reduceIte]
    have hsd := (sound_iff _).1 h1
    simp only at hsd
    by_cases h2 : d ≤ st.length
    case neg =>
      have h2' : (st.length : Int) - 1 + 1 < d := by omega
      rw [hbad (by rw [hgs, hok, h1, decide_eq_false h2]; rfl)]
      simp (maxSteps := 4000000) only [↓exT_call G19_31, ↓exT_callo G19_31, ↓exT_calloG G19_31, hxi, hl, h1, h2', go_sem, Nat.reduceAdd, Nat.reduceSub, Nat.reduceMul, Nat.reduceEqDiff, Nat.reduceLeDiff, Nat.reduceLT, Nat.reduceBEq, Int.reduceLE, Int.reduceLT, Int.reduceToNat, Int.reduceNeg, Int.reduceAdd, Int.reduceSub, Int.reduceMul, ↓reduceIte]
      omega
    have h2' : ¬ (st.length : Int) - 1 + 1 < d := by omega
    have hstl : st.length ≤ 16 := by have := congrArg List.length hp; rw [List.length_take] at this; omega
    obtain ⟨k, rfl⟩ : ∃ k : Nat, d = k := ⟨d.toNat, by omega⟩
    have hk0 : (0 : Int) ≤ (k : Int) := by omega
    have hk16 : (k : Int) < ((16 : Nat) : Int) := by omega
    have tn : (k : Int).toNat = k := Int.toNat_natCast k
    have e1 : 0 + k * 1 = k := by omega
    have hka : k < a.length := by omega
    have hdr := arr_drop hka
    have hsp := arr_splice (w := w) hka
    have hkl : k + 1 ≤ (arrC a).length := by rw [arr_len]; omega
    rw [tn] at hps
    have hnew : (a.set k w).take (pathS [] (t.take (x + 1))).length = pathS [] (t.take (x + 1)) := by
      rw [hps, List.length_append, List.length_take, List.length_singleton, Nat.min_eq_left (by omega), List.take_succ_eq_append_getElem (by rw [List.length_set]; omega)]
      rw [List.take_set_of_le (Nat.le_refl _), List.getElem_set_self]
      congr 1
      conv => rhs; rw [← hp, List.take_take, Nat.min_eq_left (by omega)]
    have hdep : (k : Int) = (pathS [] (t.take (x + 1))).length - 1 := by
      rw [hps, List.length_append, List.length_take, List.length_singleton, Nat.min_eq_left (by omega)]; omega
    have hst3 : k < st.length → st.getD k [] = a.getD k [] := fun h => by
      rw [← hp, List.getD_eq_getElem?_getD, List.getElem?_take_of_lt h, List.getD_eq_getElem?_getD]
    by_cases h3 : k < st.length
    case neg =>
      have h3' : ¬ (k : Int) ≤ (st.length : Int) - 1 := by omega
      have hgo : goS [] (t.take (x + 1)) = true := by rw [hgs, hok, h1, decide_eq_true h2, decide_eq_false (by omega)]; rfl
      simp (maxSteps := 4000000) only [↓exT_call G19_31, ↓exT_callo G19_31, ↓exT_calloG G19_31, hxi, hl, h1, h2', h3', hk0, hk16, tn, e1, hkl, hsp, go_sem, Nat.reduceAdd, Nat.reduceSub, Nat.reduceMul, Nat.reduceEqDiff, Nat.reduceLeDiff, Nat.reduceLT, Nat.reduceBEq, Int.reduceLE, Int.reduceLT, Int.reduceToNat, Int.reduceNeg, Int.reduceAdd, Int.reduceSub, Int.reduceMul, ↓reduceIte]
      exact ⟨by omega, by omega, ⟨x + 1, a.set k w⟩, ⟨by simp only; omega, by simp only [List.length_set]; exact ha, hnew, hgo⟩, by simp only; omega, ⟨hdep, by simp⟩, arr_fit _⟩
    have h3' : (k : Int) ≤ (st.length : Int) - 1 := by omega
    cases hle : leB w (a.getD k []) with
    | true =>
      rw [hbad (by rw [hgs, hok, tn, hst3 h3, hle, decide_eq_true (by omega : (k : Int) < st.length)]; simp)]
      simp (maxSteps := 4000000) only [↓exT_call G19_31, ↓exT_callo G19_31, ↓exT_calloG G19_31, hxi, hl, h1, h2', h3', hk0, hk16, tn, e1, hdr, hle, go_sem, Nat.reduceAdd, Nat.reduceSub, Nat.reduceMul, Nat.reduceEqDiff, Nat.reduceLeDiff, Nat.reduceLT, Nat.reduceBEq, Int.reduceLE, Int.reduceLT, Int.reduceToNat, Int.reduceNeg, Int.reduceAdd, Int.reduceSub, Int.reduceMul, ↓reduceIte]
      omega
    | false =>
      have hgo : goS [] (t.take (x + 1)) = true := by rw [hgs, hok, tn, hst3 h3, hle, h1, decide_eq_true h2]; simp
      simp (maxSteps := 4000000) only [↓exT_call G19_31, ↓exT_callo G19_31, ↓exT_calloG G19_31, hxi, hl, h1, h2', h3', hk0, hk16, tn, e1, hkl, hsp, hdr, hle, go_sem, Nat.reduceAdd, Nat.reduceSub, Nat.reduceMul, Nat.reduceEqDiff, Nat.reduceLeDiff, Nat.reduceLT, Nat.reduceBEq, Int.reduceLE, Int.reduceLT, Int.reduceToNat, Int.reduceNeg, Int.reduceAdd, Int.reduceSub, Int.reduceMul, ↓reduceIte]
      exact ⟨by omega, by omega, ⟨x + 1, a.set k w⟩, ⟨by simp only; omega, by simp only [List.length_set]; exact ha, hnew, hgo⟩, by simp only; omega, ⟨hdep, by simp⟩, arr_fit _⟩

end Go.Proofs.Ytjjjgagmknlpmaa
