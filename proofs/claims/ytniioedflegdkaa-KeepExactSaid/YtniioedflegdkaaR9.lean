/- The document's push. -/
import Derived.Test.YtniioedflegdkaaRA
import Derived.Test.YtniioedflegdkaaGB
set_option linter.all false
namespace Go.Proofs.Ytniioedflegdkaa
open Go Go.Ab Go.Proofs Go.Fs
def rPushG_enc : (List Bs) × (List Wr) × (Bool) × (Bool) × (Bs) → List V := fun ⟨ss, cs, f, g, t⟩ => [.agg [.s (.list 1 (encs strE ss) f), .s (.list 2 (encs wrE cs) g)], .c (.s (.str t))]
theorem rPushG_inj : ∀ x y, rPushG_enc x = rPushG_enc y → x = y := by
  rintro ⟨ss, cs, f, g, t⟩ ⟨ss2, cs2, f2, g2, t2⟩ h
  simp only [rPushG_enc, List.cons.injEq, V.c.injEq, V.agg.injEq, C.s.injEq, S.list.injEq, S.str.injEq, S.int.injEq, S.bool.injEq, S.fn.injEq, S.cref.injEq, strE_inj, true_and, and_true, wrE_inj] at h
  simp_all
noncomputable def rPushG : List V → Option (V) := specE rPushG_enc (fun ⟨ss, cs, f, g, t⟩ => True) (fun ⟨ss, cs, f, g, t⟩ => .tup [.inl (.s (.list 3 (encs opE (pushD ⟨ss, cs⟩ t).1) false)), .inl (.s (.int .i64 (pushD ⟨ss, cs⟩ t).2.1)), .inl (.s (.int .i64 (pushD ⟨ss, cs⟩ t).2.2))])
theorem rPushG_eq {ss : List Bs} {cs : List Wr} {f : Bool} {g : Bool} {t : Bs} [Decidable (True)] : rPushG [.agg [.s (.list 1 (encs strE ss) f), .s (.list 2 (encs wrE cs) g)], .c (.s (.str t))] = if True then some (.tup [.inl (.s (.list 3 (encs opE (pushD ⟨ss, cs⟩ t).1) false)), .inl (.s (.int .i64 (pushD ⟨ss, cs⟩ t).2.1)), .inl (.s (.int .i64 (pushD ⟨ss, cs⟩ t).2.2))]) else none := specE_eq rPushG_inj (ss, cs, f, g, t)
theorem rPushG_call {ss : List Bs} {cs : List Wr} {f : Bool} {g : Bool} {t : Bs} {gt : Bool} {K : V → Prop} : callE rPushG [.agg [.s (.list 1 (encs strE ss) f), .s (.list 2 (encs wrE cs) g)], .c (.s (.str t))] gt K = bindV (ifV gt (.tup [.inl (.s (.list 3 (encs opE (pushD ⟨ss, cs⟩ t).1) false)), .inl (.s (.int .i64 (pushD ⟨ss, cs⟩ t).2.1)), .inl (.s (.int .i64 (pushD ⟨ss, cs⟩ t).2.2))])) K := callE_all (by rw [rPushG_eq]; rfl)
theorem rPushG_callo {ss : List Bs} {cs : List Wr} {f : Bool} {g : Bool} {t : Bs} {m : Nat → Option Ab.Obj} {locs : List Nat} {K : V → (Nat → Option Ab.Obj) → Prop} : callO rPushG (some [.agg [.s (.list 1 (encs strE ss) f), .s (.list 2 (encs wrE cs) g)], .c (.s (.str t))]) m locs K = K (.tup [.inl (.s (.list 3 (encs opE (pushD ⟨ss, cs⟩ t).1) false)), .inl (.s (.int .i64 (pushD ⟨ss, cs⟩ t).2.1)), .inl (.s (.int .i64 (pushD ⟨ss, cs⟩ t).2.2))]) (sealW m locs (.tup [.inl (.s (.list 3 (encs opE (pushD ⟨ss, cs⟩ t).1) false)), .inl (.s (.int .i64 (pushD ⟨ss, cs⟩ t).2.1)), .inl (.s (.int .i64 (pushD ⟨ss, cs⟩ t).2.2))])) := callO_all (by rw [rPushG_eq]; rfl)
attribute [go_sem] rPushG_call rPushG_callo

def sc_ref19_Push : SC := .seq (.reg [⟨some 2, .box 2, [.t 0], none⟩,
⟨some 4, .mv, [.k (.c (.s (.list 0 [] true)))], none⟩,
⟨some 5, .mv, [.k (.c (.s (.int .i64 0)))], none⟩,
⟨some 6, .mv, [.k (.c (.s (.int .i64 0)))], none⟩]) (.seq (.reg [⟨some 13, .load 2 true, [.t 2], none⟩,
⟨some 14, .call 17, [.t 13], none⟩,
⟨some 12, .mv, [.t 14], none⟩,
⟨some 15, .ext 0, [.t 12], none⟩,
⟨some 16, .ext 1, [.t 12], none⟩,
⟨some 7, .alloc [.int .i64 0, .list 0 [] true, .int .i64 0], [], none⟩,
⟨none, .store 3 true, [.t 7, .t 15], none⟩,
⟨some 8, .mv, [.t 16], none⟩]) (.seq (.seq (.reg [⟨some 17, .mv, [.t 8], none⟩,
⟨some 18, .bin .neq, [.t 17, .k (.c (.s (.int .i64 0)))], none⟩]) (.cond (.t 18) (.seq (.reg [⟨some 19, .mv, [.t 8], none⟩,
⟨some 4, .mv, [.k (.c (.s (.list 0 [] true)))], none⟩,
⟨some 5, .mv, [.k (.c (.s (.int .i64 0)))], none⟩,
⟨some 6, .mv, [.t 19], none⟩]) (.ret)) (.skip))) (.seq (.reg [⟨some 20, .mv, [.t 1], none⟩,
⟨some 21, .build [.int .i64 0, .str []] [(0, 1), (1, 1)], [.k (.c (.s (.int .i64 1))), .t 20], none⟩,
⟨some 9, .alloc [.int .i64 0, .str []], [], none⟩,
⟨none, .store 2 true, [.t 9, .t 21], none⟩]) (.seq (.seq (.reg [⟨some 22, .fadr 1, [.t 7], none⟩,
⟨some 23, .load 1 false, [.t 22], none⟩,
⟨some 24, .len false, [.t 23], none⟩,
⟨some 25, .bin .gtr, [.t 24, .k (.c (.s (.int .i64 0)))], none⟩]) (.cond (.t 25) (.reg [⟨some 26, .fadr 1, [.t 7], none⟩,
⟨some 27, .load 1 false, [.t 26], none⟩,
⟨some 28, .fadr 1, [.t 7], none⟩,
⟨some 29, .load 1 false, [.t 28], none⟩,
⟨some 30, .len false, [.t 29], none⟩,
⟨some 31, .bin .sub, [.t 30, .k (.c (.s (.int .i64 1)))], none⟩,
⟨some 32, .iadr 2, [.t 27, .t 31], none⟩,
⟨some 33, .fadr 0, [.t 32], none⟩,
⟨some 34, .load 1 false, [.t 33], none⟩,
⟨some 35, .bin .add, [.t 34, .k (.c (.s (.int .i64 1)))], none⟩,
⟨some 36, .fadr 0, [.t 9], none⟩,
⟨none, .store 1 false, [.t 36, .t 35], none⟩]) (.skip))) (.seq (.reg [⟨some 38, .load 2 true, [.t 2], none⟩,
⟨some 39, .mv, [.t 1], none⟩,
⟨some 40, .call 21, [.t 38, .t 39], none⟩,
⟨some 37, .mv, [.t 40], none⟩,
⟨some 41, .ext 0, [.t 37], none⟩,
⟨some 42, .ext 1, [.t 37], none⟩,
⟨some 10, .mv, [.t 41], none⟩,
⟨some 11, .mv, [.t 42], none⟩]) (.seq (.seq (.reg [⟨some 43, .mv, [.t 11], none⟩,
⟨some 44, .bin .eql, [.t 43, .k (.c (.s (.int .i64 10)))], none⟩]) (.cond (.t 44) (.regD [⟨some 46, .load 2 true, [.t 2], none⟩,
⟨some 47, .fadr 1, [.t 7], none⟩,
⟨some 48, .load 1 false, [.t 47], none⟩,
⟨some 49, .call 32, [.t 48, .k (.c (.s (.int .i64 4)))], none⟩,
⟨some 50, .load 2 true, [.t 9], none⟩,
⟨some 51, .bslice 2 1 [.int .i64 0, .str []] [0], [.t 50], none⟩,
⟨some 52, .append false 2 24, [.t 49, .t 51], none⟩,
⟨some 53, .call 25, [.t 46, .t 52], none⟩,
⟨some 45, .mv, [.t 53], none⟩,
⟨some 54, .ext 0, [.t 45], none⟩,
⟨some 55, .ext 1, [.t 45], none⟩,
⟨some 10, .mv, [.t 54], none⟩,
⟨some 11, .mv, [.t 55], none⟩] [(0, 3), (3, 4), (0, 5), (1, 5), (2, 5), (3, 5), (0, 6)]) (.skip))) (.seq (.seq (.reg [⟨some 56, .mv, [.t 11], none⟩,
⟨some 57, .bin .neq, [.t 56, .k (.c (.s (.int .i64 0)))], none⟩]) (.cond (.t 57) (.seq (.reg [⟨some 58, .mv, [.t 11], none⟩,
⟨some 4, .mv, [.k (.c (.s (.list 0 [] true)))], none⟩,
⟨some 5, .mv, [.k (.c (.s (.int .i64 0)))], none⟩,
⟨some 6, .mv, [.t 58], none⟩]) (.ret)) (.skip))) (.seq (.regD [⟨some 59, .mv, [.t 10], none⟩,
⟨some 60, .fadr 0, [.t 9], none⟩,
⟨some 61, .load 1 false, [.t 60], none⟩,
⟨some 4, .mv, [.t 59], none⟩,
⟨some 5, .mv, [.t 61], none⟩,
⟨some 6, .mv, [.k (.c (.s (.int .i64 0)))], none⟩] []) (.ret)))))))))
noncomputable def G_ref19_Push : FuncId → Ab.Spec := addS (addS (addS (addS (noS) 17 (plain rScanG)) 21 (plain rAppendG)) 32 (fresh NewestG)) 25 (plain rRenewG)
theorem G_ref19_Push_ok : ∀ f, Contract Try.prog f (G_ref19_Push f) := (addS_ok (addS_ok (addS_ok (addS_ok (noS_ok _) contract_ref18_Scan) contract_ref18_Append) contract_ref19_Newest) contract_ref18_Renew)
theorem G34_17 : G_ref19_Push 17 = plain rScanG := by simp [G_ref19_Push, addS]
theorem G34_21 : G_ref19_Push 21 = plain rAppendG := by simp [G_ref19_Push, addS]
theorem G34_32 : G_ref19_Push 32 = fresh NewestG := by simp [G_ref19_Push, addS]
theorem G34_25 : G_ref19_Push 25 = plain rRenewG := by simp [G_ref19_Push, addS]
set_option maxHeartbeats 16000000 in
set_option maxRecDepth 1000000 in
set_option linter.unusedSimpArgs false in
set_option linter.unusedVariables false in
theorem contract_ref19_Push : Contract Try.prog 34 (plain rPushG) := by
  have hb : ∃ c, Try.f34.body = some c ∧ codeOk 62 c = true ∧ cCode Try.prog c = sc_ref19_Push := ⟨_, rfl, by kernel_rfl, by kernel_rfl⟩
  obtain ⟨c, hb1, hb2, hb3⟩ := hb
  refine contract_of (n := 2) G_ref19_Push_ok hB hD Try.func34 hb1 (by kernel_rfl) hb2 hb3 (rs := [.tmp 4, .tmp 5, .tmp 6]) (by kernel_rfl) (by decide) ?_ ?_
  · intro args x h
    obtain ⟨y, hy, -⟩ := Option.map_eq_some_iff.1 h
    obtain ⟨⟨ss, cs, f, g, t⟩, rfl, -⟩ := specE_some hy
    rfl
  · intro args r hr
    obtain ⟨y, hy, rfl⟩ := Option.map_eq_some_iff.1 hr
    obtain ⟨⟨ss, cs, f, g, t⟩, rfl, hc, rfl⟩ := specE_some hy
    clear hr hy
    have hc : True := hc
    change awp _ _ (postQ _ (.v (.tup [.inl (.s (.list 3 (encs opE (pushD ⟨ss, cs⟩ t).1) false)), .inl (.s (.int .i64 (pushD ⟨ss, cs⟩ t).2.1)), .inl (.s (.int .i64 (pushD ⟨ss, cs⟩ t).2.2))]))) _
    unfold rPushG_enc sc_ref19_Push
    have hpd : pushD ⟨ss, cs⟩ t = if (scanD ⟨ss, cs⟩).2 ≠ 0 then ([], 0, (scanD ⟨ss, cs⟩).2)
      else if (appendD ⟨ss, cs⟩ t).2 = 10 then
        (if (renewD ⟨ss, cs⟩ (newestL (scanD ⟨ss, cs⟩).1.recs 4 ++ [nextRec (scanD ⟨ss, cs⟩).1.recs t])).2 ≠ 0 then ([], 0, (renewD ⟨ss, cs⟩ (newestL (scanD ⟨ss, cs⟩).1.recs 4 ++ [nextRec (scanD ⟨ss, cs⟩).1.recs t])).2)
         else ((renewD ⟨ss, cs⟩ (newestL (scanD ⟨ss, cs⟩).1.recs 4 ++ [nextRec (scanD ⟨ss, cs⟩).1.recs t])).1, lastNum (scanD ⟨ss, cs⟩).1.recs + 1, 0))
      else if (appendD ⟨ss, cs⟩ t).2 ≠ 0 then ([], 0, (appendD ⟨ss, cs⟩ t).2)
      else ((appendD ⟨ss, cs⟩ t).1, lastNum (scanD ⟨ss, cs⟩).1.recs + 1, 0) := rfl
    by_cases he : (scanD ⟨ss, cs⟩).2 = 0
    case neg =>
      rw [if_pos he] at hpd
      rw [hpd]
      simp (maxSteps := 4000000) only [↓exT_call G34_17, ↓exT_callo G34_17, ↓exT_calloG G34_17, ↓exT_call G34_21, ↓exT_callo G34_21, ↓exT_calloG G34_21, ↓exT_callf G34_32, ↓exT_call G34_25, ↓exT_callo G34_25, ↓exT_calloG G34_25, he, go_sem, Nat.reduceAdd, Nat.reduceSub, Nat.reduceMul, Nat.reduceEqDiff, Nat.reduceLeDiff, Nat.reduceLT, Nat.reduceBEq, Int.reduceLE, Int.reduceLT, Int.reduceToNat, Int.reduceNeg, Int.reduceAdd, Int.reduceSub, Int.reduceMul, ↓reduceIte]
    rw [if_neg (by simp [he])] at hpd
    obtain ⟨k1, k2, k3, k4, k5, k6⟩ := scan_ok he
    have hff := from_fit (n := ss.length) (g := (scanD ⟨ss, cs⟩).1.gen) k2
    have q2 := ((right_iff _).1 k1).2.1
    simp only at k2 k5 k6 q2
    have hnx : nextRec (scanD ⟨ss, cs⟩).1.recs t = ⟨lastNum (scanD ⟨ss, cs⟩).1.recs + 1, t⟩ := rfl
    rw [hnx] at hpd
    generalize hrr : (scanD ⟨ss, cs⟩).1.recs = rs at *
    have hrl : rs.length < 4000000 := by omega
    have hln := lastNum_le fun r hr => (k4 r hr).1
    have hmn : maxNum = 2147483647 := rfl
    have hnum : (rs = [] ∧ lastNum rs + 1 = 1) ∨ (rs ≠ [] ∧ (rs.getD (rs.length - 1) default).num + 1 = lastNum rs + 1) := by
      by_cases h : rs = []
      · exact .inl ⟨h, by rw [h]; rfl⟩
      · exact .inr ⟨h, by rw [lastNum_ne h]⟩
    have hnl := newest_len rs 4
    have hn4 : (newestL rs 4 ++ [(⟨lastNum rs + 1, t⟩ : Rec)]).length < 4000000 := by rw [List.length_append]; simp; omega
    have h4 : (4 : Int).toNat = 4 := rfl
    have hb4 : ((newestL rs 4).length + 1) * 24 ≤ 140737488355328 := by omega
    generalize hap : appendD ⟨ss, cs⟩ t = AP at *
    generalize hrn : renewD ⟨ss, cs⟩ (newestL rs 4 ++ [(⟨lastNum rs + 1, t⟩ : Rec)]) = RN at *
    rcases hnum with ⟨h0, hN⟩ | ⟨h0, hN⟩
    · have hz : ¬ (0 : Int) < (rs.length : Int) := by rw [h0]; simp
      rw [hN] at hpd hrn hn4
      by_cases h10 : AP.2 = 10
      · rw [if_pos h10] at hpd
        by_cases hr0 : RN.2 = 0
        · rw [if_neg (by simp [hr0])] at hpd
          rw [hpd]
          simp (maxSteps := 4000000) only [↓exT_call G34_17, ↓exT_callo G34_17, ↓exT_calloG G34_17, ↓exT_call G34_21, ↓exT_callo G34_21, ↓exT_calloG G34_21, ↓exT_callf G34_32, ↓exT_call G34_25, ↓exT_callo G34_25, ↓exT_calloG G34_25, he, hrr, hrl, hz, hap, h10, h4, rec_snoc, hrn, hn4, hb4, hr0, go_sem, Nat.reduceAdd, Nat.reduceSub, Nat.reduceMul, Nat.reduceEqDiff, Nat.reduceLeDiff, Nat.reduceLT, Nat.reduceBEq, Int.reduceLE, Int.reduceLT, Int.reduceToNat, Int.reduceNeg, Int.reduceAdd, Int.reduceSub, Int.reduceMul, ↓reduceIte]
          all_goals ((repeat' (first | with_reducible apply And.intro | intro)) <;> first | omega | (with_reducible rfl) | skip)
        · rw [if_pos hr0] at hpd
          rw [hpd]
          simp (maxSteps := 4000000) only [↓exT_call G34_17, ↓exT_callo G34_17, ↓exT_calloG G34_17, ↓exT_call G34_21, ↓exT_callo G34_21, ↓exT_calloG G34_21, ↓exT_callf G34_32, ↓exT_call G34_25, ↓exT_callo G34_25, ↓exT_calloG G34_25, he, hrr, hrl, hz, hap, h10, h4, rec_snoc, hrn, hn4, hb4, hr0, go_sem, Nat.reduceAdd, Nat.reduceSub, Nat.reduceMul, Nat.reduceEqDiff, Nat.reduceLeDiff, Nat.reduceLT, Nat.reduceBEq, Int.reduceLE, Int.reduceLT, Int.reduceToNat, Int.reduceNeg, Int.reduceAdd, Int.reduceSub, Int.reduceMul, ↓reduceIte]
          all_goals ((repeat' (first | with_reducible apply And.intro | intro)) <;> first | omega | (with_reducible rfl) | skip)
      · rw [if_neg h10] at hpd
        by_cases ha0 : AP.2 = 0
        · rw [if_neg (by simp [ha0])] at hpd
          rw [hpd]
          have h10' : ¬ (0 : Int) = 10 := by omega
          simp (maxSteps := 4000000) only [↓exT_call G34_17, ↓exT_callo G34_17, ↓exT_calloG G34_17, ↓exT_call G34_21, ↓exT_callo G34_21, ↓exT_calloG G34_21, ↓exT_callf G34_32, ↓exT_call G34_25, ↓exT_callo G34_25, ↓exT_calloG G34_25, he, hrr, hrl, hz, hap, ha0, h10', go_sem, Nat.reduceAdd, Nat.reduceSub, Nat.reduceMul, Nat.reduceEqDiff, Nat.reduceLeDiff, Nat.reduceLT, Nat.reduceBEq, Int.reduceLE, Int.reduceLT, Int.reduceToNat, Int.reduceNeg, Int.reduceAdd, Int.reduceSub, Int.reduceMul, ↓reduceIte]
        · rw [if_pos ha0] at hpd
          rw [hpd]
          simp (maxSteps := 4000000) only [↓exT_call G34_17, ↓exT_callo G34_17, ↓exT_calloG G34_17, ↓exT_call G34_21, ↓exT_callo G34_21, ↓exT_calloG G34_21, ↓exT_callf G34_32, ↓exT_call G34_25, ↓exT_callo G34_25, ↓exT_calloG G34_25, he, hrr, hrl, hz, hap, h10, ha0, go_sem, Nat.reduceAdd, Nat.reduceSub, Nat.reduceMul, Nat.reduceEqDiff, Nat.reduceLeDiff, Nat.reduceLT, Nat.reduceBEq, Int.reduceLE, Int.reduceLT, Int.reduceToNat, Int.reduceNeg, Int.reduceAdd, Int.reduceSub, Int.reduceMul, ↓reduceIte]
    · have h0l : rs.length ≠ 0 := fun e => h0 (List.length_eq_zero_iff.1 e)
      have hz : (0 : Int) < (rs.length : Int) := by omega
      have hll := k4 _ (mem_getD (l := rs) (i := rs.length - 1) (by omega))
      have eix : ((rs.length : Int) - 1).toNat = rs.length - 1 := by omega
      have hge : (encs recE rs).getD (rs.length - 1) [] = recE (rs.getD (rs.length - 1) default) := encs_getN (by omega)
      have hix : (0 : Int) ≤ (rs.length : Int) - 1 ∧ (rs.length : Int) - 1 < (rs.length : Int) := by omega
      generalize hNN : lastNum rs + 1 = N at *
      by_cases h10 : AP.2 = 10
      · rw [if_pos h10] at hpd
        by_cases hr0 : RN.2 = 0
        · rw [if_neg (by simp [hr0])] at hpd
          rw [hpd]
          simp (maxSteps := 4000000) only [↓exT_call G34_17, ↓exT_callo G34_17, ↓exT_calloG G34_17, ↓exT_call G34_21, ↓exT_callo G34_21, ↓exT_calloG G34_21, ↓exT_callf G34_32, ↓exT_call G34_25, ↓exT_callo G34_25, ↓exT_calloG G34_25, he, hrr, hrl, hz, hix.1, hix.2, eix, hge, hN, hap, h10, h4, rec_snoc, hrn, hn4, hb4, hr0, go_sem, Nat.reduceAdd, Nat.reduceSub, Nat.reduceMul, Nat.reduceEqDiff, Nat.reduceLeDiff, Nat.reduceLT, Nat.reduceBEq, Int.reduceLE, Int.reduceLT, Int.reduceToNat, Int.reduceNeg, Int.reduceAdd, Int.reduceSub, Int.reduceMul, ↓reduceIte]
          all_goals ((repeat' (first | with_reducible apply And.intro | intro)) <;> first | omega | (with_reducible rfl) | skip)
        · rw [if_pos hr0] at hpd
          rw [hpd]
          simp (maxSteps := 4000000) only [↓exT_call G34_17, ↓exT_callo G34_17, ↓exT_calloG G34_17, ↓exT_call G34_21, ↓exT_callo G34_21, ↓exT_calloG G34_21, ↓exT_callf G34_32, ↓exT_call G34_25, ↓exT_callo G34_25, ↓exT_calloG G34_25, he, hrr, hrl, hz, hix.1, hix.2, eix, hge, hN, hap, h10, h4, rec_snoc, hrn, hn4, hb4, hr0, go_sem, Nat.reduceAdd, Nat.reduceSub, Nat.reduceMul, Nat.reduceEqDiff, Nat.reduceLeDiff, Nat.reduceLT, Nat.reduceBEq, Int.reduceLE, Int.reduceLT, Int.reduceToNat, Int.reduceNeg, Int.reduceAdd, Int.reduceSub, Int.reduceMul, ↓reduceIte]
          all_goals ((repeat' (first | with_reducible apply And.intro | intro)) <;> first | omega | (with_reducible rfl) | skip)
      · rw [if_neg h10] at hpd
        by_cases ha0 : AP.2 = 0
        · rw [if_neg (by simp [ha0])] at hpd
          rw [hpd]
          have h10' : ¬ (0 : Int) = 10 := by omega
          simp (maxSteps := 4000000) only [↓exT_call G34_17, ↓exT_callo G34_17, ↓exT_calloG G34_17, ↓exT_call G34_21, ↓exT_callo G34_21, ↓exT_calloG G34_21, ↓exT_callf G34_32, ↓exT_call G34_25, ↓exT_callo G34_25, ↓exT_calloG G34_25, he, hrr, hrl, hz, hix.1, hix.2, eix, hge, hN, hap, ha0, h10', go_sem, Nat.reduceAdd, Nat.reduceSub, Nat.reduceMul, Nat.reduceEqDiff, Nat.reduceLeDiff, Nat.reduceLT, Nat.reduceBEq, Int.reduceLE, Int.reduceLT, Int.reduceToNat, Int.reduceNeg, Int.reduceAdd, Int.reduceSub, Int.reduceMul, ↓reduceIte]
          all_goals ((repeat' (first | with_reducible apply And.intro | intro)) <;> first | omega | (with_reducible rfl) | skip)
        · rw [if_pos ha0] at hpd
          rw [hpd]
          simp (maxSteps := 4000000) only [↓exT_call G34_17, ↓exT_callo G34_17, ↓exT_calloG G34_17, ↓exT_call G34_21, ↓exT_callo G34_21, ↓exT_calloG G34_21, ↓exT_callf G34_32, ↓exT_call G34_25, ↓exT_callo G34_25, ↓exT_calloG G34_25, he, hrr, hrl, hz, hix.1, hix.2, eix, hge, hN, hap, h10, ha0, go_sem, Nat.reduceAdd, Nat.reduceSub, Nat.reduceMul, Nat.reduceEqDiff, Nat.reduceLeDiff, Nat.reduceLT, Nat.reduceBEq, Int.reduceLE, Int.reduceLT, Int.reduceToNat, Int.reduceNeg, Int.reduceAdd, Int.reduceSub, Int.reduceMul, ↓reduceIte]
          all_goals ((repeat' (first | with_reducible apply And.intro | intro)) <;> first | omega | (with_reducible rfl) | skip)

end Go.Proofs.Ytniioedflegdkaa
