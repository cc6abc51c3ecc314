/- The statements on disks, as functions: DiskRuns, DiskCalm. -/
import Derived.Test.YtcnemnehjpaggaaK7
set_option linter.all false
namespace Go.Proofs.Ytcnemnehjpaggaa
open Go Go.Ab Go.Proofs Go.Fs
def dRunsG_enc : (List Bs) × (List Wr) × (Bool) × (Bool) × (List DOp) × (Bool) × (Int) → List V := fun ⟨ss, cs, f, g, l, h, n⟩ => [.agg [.s (.list 1 (encs strE ss) f), .s (.list 2 (encs wrE cs) g)], .c (.s (.list 3 (encs opE l) h)), .c (.s (.int .i64 n))]
theorem dRunsG_inj : ∀ x y, dRunsG_enc x = dRunsG_enc y → x = y := by
  rintro ⟨ss, cs, f, g, l, h, n⟩ ⟨ss2, cs2, f2, g2, l2, h2, n2⟩ h
  simp only [dRunsG_enc, List.cons.injEq, V.c.injEq, V.agg.injEq, C.s.injEq, S.list.injEq, S.str.injEq, S.int.injEq, S.bool.injEq, S.fn.injEq, S.cref.injEq, strE_inj, true_and, and_true, wrE_inj, opE_inj] at h
  simp_all
noncomputable def dRunsG : List V → Option (V) := specE dRunsG_enc (fun ⟨ss, cs, f, g, l, h, n⟩ => fitC cs.length) (fun ⟨ss, cs, f, g, l, h, n⟩ => .c (.s (.bool true)))
theorem dRunsG_eq {ss : List Bs} {cs : List Wr} {f : Bool} {g : Bool} {l : List DOp} {h : Bool} {n : Int} [Decidable (fitC cs.length)] : dRunsG [.agg [.s (.list 1 (encs strE ss) f), .s (.list 2 (encs wrE cs) g)], .c (.s (.list 3 (encs opE l) h)), .c (.s (.int .i64 n))] = if fitC cs.length then some (.c (.s (.bool true))) else none := specE_eq dRunsG_inj (ss, cs, f, g, l, h, n)
theorem dRunsG_call {ss : List Bs} {cs : List Wr} {f : Bool} {g : Bool} {l : List DOp} {h : Bool} {n : Int} {gt : Bool} {K : V → Prop} : callE dRunsG [.agg [.s (.list 1 (encs strE ss) f), .s (.list 2 (encs wrE cs) g)], .c (.s (.list 3 (encs opE l) h)), .c (.s (.int .i64 n))] gt K = ((gt = true → fitC cs.length) ∧ bindV (ifV gt (.c (.s (.bool true)))) K) := by
  have := Classical.propDecidable (fitC cs.length)
  exact callE_of dRunsG_eq
theorem dRunsG_callo {ss : List Bs} {cs : List Wr} {f : Bool} {g : Bool} {l : List DOp} {h : Bool} {n : Int} {m : Nat → Option Ab.Obj} {locs : List Nat} {K : V → (Nat → Option Ab.Obj) → Prop} : callO dRunsG (some [.agg [.s (.list 1 (encs strE ss) f), .s (.list 2 (encs wrE cs) g)], .c (.s (.list 3 (encs opE l) h)), .c (.s (.int .i64 n))]) m locs K = ((fitC cs.length) ∧ K (.c (.s (.bool true))) (sealW m locs (.c (.s (.bool true))))) := by
  have := Classical.propDecidable (fitC cs.length)
  exact callO_of dRunsG_eq
attribute [go_sem] dRunsG_call dRunsG_callo

def sc_law17_DiskRuns : SC := .seq (.reg [⟨some 3, .box 2, [.t 0], none⟩,
⟨some 6, .mv, [.k (.c (.s (.bool false)))], none⟩]) (.seq (.reg [⟨some 10, .load 2 true, [.t 3], none⟩,
⟨some 11, .call 12, [.t 10], none⟩,
⟨some 7, .alloc [.list 0 [] true, .list 0 [] true], [], none⟩,
⟨none, .store 2 true, [.t 7, .t 11], none⟩]) (.seq (.seq (.reg [⟨some 12, .load 2 true, [.t 7], none⟩,
⟨some 13, .call 13, [.t 12], none⟩,
⟨some 14, .not, [.t 13], none⟩,
⟨some 15, .mv, [.t 14], none⟩,
⟨some 16, .mv, [.t 1], some (15, false)⟩,
⟨some 17, .len false, [.t 16], some (15, false)⟩,
⟨some 18, .bin .gtr, [.t 17, .k (.c (.s (.int .i64 60)))], some (15, false)⟩,
⟨some 19, .pick, [.t 15, .k (.c (.s (.bool true))), .t 18], none⟩]) (.cond (.t 19) (.seq (.reg [⟨some 20, .call 11, [], none⟩,
⟨some 6, .mv, [.t 20], none⟩]) (.ret)) (.skip))) (.seq (.seq (.reg [⟨some 21, .mv, [.t 1], none⟩,
⟨some 22, .len false, [.t 21], none⟩,
⟨some 23, .mv, [.k (.c (.s (.int .i64 0)))], none⟩]) (.block 0 (.loop (.seq (.reg [⟨some 24, .bin .lss, [.t 23, .t 22], none⟩]) (.seq (.cond (.t 24) (.skip) (.exit 0)) (.seq (.block 1 (.seq (.reg [⟨some 25, .iadr 3, [.t 21, .t 23], none⟩,
⟨some 26, .load 3 true, [.t 25], none⟩,
⟨some 9, .alloc [.bool false, .int .i64 0, .str []], [], none⟩,
⟨none, .store 3 true, [.t 9, .t 26], none⟩]) (.seq (.reg [⟨some 27, .fadr 1, [.t 9], none⟩,
⟨some 28, .fadr 1, [.t 27], none⟩,
⟨some 29, .load 1 false, [.t 28], none⟩,
⟨some 30, .len true, [.t 29], none⟩,
⟨some 31, .bin .gtr, [.t 30, .k (.c (.s (.int .i64 60)))], none⟩]) (.cond (.t 31) (.seq (.reg [⟨some 32, .call 11, [], none⟩,
⟨some 6, .mv, [.t 32], none⟩]) (.ret)) (.skip))))) (.reg [⟨some 33, .bin .add, [.t 23, .k (.c (.s (.int .i64 1)))], none⟩,
⟨some 23, .mv, [.t 33], none⟩]))))))) (.seq (.regD [⟨some 34, .load 2 true, [.t 3], none⟩,
⟨some 35, .mv, [.t 1], none⟩,
⟨some 36, .mv, [.t 2], none⟩,
⟨some 37, .call 24, [.t 34, .t 35, .t 36], none⟩,
⟨some 38, .load 2 true, [.t 7], none⟩,
⟨some 39, .mv, [.t 1], none⟩,
⟨some 40, .call 26, [.t 39], none⟩,
⟨some 41, .mv, [.t 2], none⟩,
⟨some 42, .call 25, [.t 38, .t 40, .t 41], none⟩,
⟨some 43, .call 18, [.t 37, .t 42], none⟩,
⟨some 44, .mv, [.t 43], none⟩,
⟨some 45, .call 11, [], some (44, true)⟩,
⟨some 46, .pick, [.t 44, .t 45, .k (.c (.s (.bool false)))], none⟩,
⟨some 6, .mv, [.t 46], none⟩] [(3, 4), (4, 6)]) (.ret)))))
noncomputable def G_law17_DiskRuns : FuncId → Ab.Spec := addS (addS (addS (addS (addS (addS (addS (noS) 12 (plain refG)) 13 (plain smallG)) 11 (plain awakeG)) 24 (plain runG)) 26 (plain refsG)) 25 (plain rRunG)) 18 (plain sameG)
theorem G_law17_DiskRuns_ok : ∀ f, Contract Try.prog f (G_law17_DiskRuns f) := (addS_ok (addS_ok (addS_ok (addS_ok (addS_ok (addS_ok (addS_ok (noS_ok _) contract_law17_Ref) contract_ref17_Small) contract_law17_awake) contract_disk_Run) contract_law17_refs) contract_ref17_Run) contract_law17_same)
theorem G5_12 : G_law17_DiskRuns 12 = plain refG := by simp [G_law17_DiskRuns, addS]
theorem G5_13 : G_law17_DiskRuns 13 = plain smallG := by simp [G_law17_DiskRuns, addS]
theorem G5_11 : G_law17_DiskRuns 11 = plain awakeG := by simp [G_law17_DiskRuns, addS]
theorem G5_24 : G_law17_DiskRuns 24 = plain runG := by simp [G_law17_DiskRuns, addS]
theorem G5_26 : G_law17_DiskRuns 26 = plain refsG := by simp [G_law17_DiskRuns, addS]
theorem G5_25 : G_law17_DiskRuns 25 = plain rRunG := by simp [G_law17_DiskRuns, addS]
theorem G5_18 : G_law17_DiskRuns 18 = plain sameG := by simp [G_law17_DiskRuns, addS]
set_option maxHeartbeats 16000000 in
set_option maxRecDepth 1000000 in
set_option linter.unusedSimpArgs false in
set_option linter.unusedVariables false in
theorem contract_law17_DiskRuns : Contract Try.prog 5 (plain dRunsG) := by
  have hb : ∃ c, Try.f5.body = some c ∧ codeOk 47 c = true ∧ cCode Try.prog c = sc_law17_DiskRuns := ⟨_, rfl, by kernel_rfl, by kernel_rfl⟩
  obtain ⟨c, hb1, hb2, hb3⟩ := hb
  refine contract_of (n := 3) G_law17_DiskRuns_ok hB hD Try.func5 hb1 (by kernel_rfl) hb2 hb3 (rs := [.tmp 6]) (by kernel_rfl) (by decide) ?_ ?_
  · intro args x h
    obtain ⟨y, hy, -⟩ := Option.map_eq_some_iff.1 h
    obtain ⟨⟨ss, cs, f, g, l, h, n⟩, rfl, -⟩ := specE_some hy
    rfl
  · intro args r hr
    obtain ⟨y, hy, rfl⟩ := Option.map_eq_some_iff.1 hr
    obtain ⟨⟨ss, cs, f, g, l, h, n⟩, rfl, hc, rfl⟩ := specE_some hy
    clear hr hy
    have hc : fitC cs.length := hc
    change awp _ _ (postQ _ (.v (.c (.s (.bool true))))) _
    unfold dRunsG_enc sc_law17_DiskRuns
    have hfc := hc
    cases hsm9 : smallD ⟨ss, cs⟩ with
    | false => simp +contextual (maxSteps := 4000000) only [↓exT_call G5_12, ↓exT_callo G5_12, ↓exT_calloG G5_12, ↓exT_call G5_13, ↓exT_callo G5_13, ↓exT_calloG G5_13, ↓exT_call G5_11, ↓exT_callo G5_11, ↓exT_calloG G5_11, ↓exT_call G5_24, ↓exT_callo G5_24, ↓exT_calloG G5_24, ↓exT_call G5_26, ↓exT_callo G5_26, ↓exT_calloG G5_26, ↓exT_call G5_25, ↓exT_callo G5_25, ↓exT_calloG G5_25, ↓exT_call G5_18, ↓exT_callo G5_18, ↓exT_calloG G5_18, hfc, hsm9, go_sem, Nat.reduceAdd, Nat.reduceSub, Nat.reduceMul, Nat.reduceEqDiff, Nat.reduceLeDiff, Nat.reduceLT, Nat.reduceBEq, Int.reduceLE, Int.reduceLT, Int.reduceToNat, Int.reduceNeg, Int.reduceAdd, Int.reduceSub, Int.reduceMul, ↓reduceIte]
    | true =>
    obtain ⟨hc1, hc2⟩ := small_4 hsm9
    by_cases hc3 : l.length < 4000000
    case neg =>
      have hb9 : 60 < (l.length : Int) := by omega
      simp +contextual (maxSteps := 4000000) only [↓exT_call G5_12, ↓exT_callo G5_12, ↓exT_calloG G5_12, ↓exT_call G5_13, ↓exT_callo G5_13, ↓exT_calloG G5_13, ↓exT_call G5_11, ↓exT_callo G5_11, ↓exT_calloG G5_11, ↓exT_call G5_24, ↓exT_callo G5_24, ↓exT_calloG G5_24, ↓exT_call G5_26, ↓exT_callo G5_26, ↓exT_calloG G5_26, ↓exT_call G5_25, ↓exT_callo G5_25, ↓exT_calloG G5_25, ↓exT_call G5_18, ↓exT_callo G5_18, ↓exT_calloG G5_18, hfc, hsm9, hb9, go_sem, Nat.reduceAdd, Nat.reduceSub, Nat.reduceMul, Nat.reduceEqDiff, Nat.reduceLeDiff, Nat.reduceLT, Nat.reduceBEq, Int.reduceLE, Int.reduceLT, Int.reduceToNat, Int.reduceNeg, Int.reduceAdd, Int.reduceSub, Int.reduceMul, ↓reduceIte]
    by_cases hg : smallD ⟨ss, cs⟩ = true ∧ l.length ≤ 60
    case neg =>
      have e : (!smallD ⟨ss, cs⟩ || decide (60 < (l.length : Int))) = true := by
        rw [Bool.or_eq_true, decide_eq_true_eq, Bool.not_eq_true']
        by_cases h1 : smallD ⟨ss, cs⟩ = true
        · have : ¬ l.length ≤ 60 := fun h => hg ⟨h1, h⟩
          omega
        · exact .inl (by simpa using h1)
      simp +contextual (maxSteps := 4000000) only [↓exT_call G5_12, ↓exT_callo G5_12, ↓exT_calloG G5_12, ↓exT_call G5_13, ↓exT_callo G5_13, ↓exT_calloG G5_13, ↓exT_call G5_11, ↓exT_callo G5_11, ↓exT_calloG G5_11, ↓exT_call G5_24, ↓exT_callo G5_24, ↓exT_calloG G5_24, ↓exT_call G5_26, ↓exT_callo G5_26, ↓exT_calloG G5_26, ↓exT_call G5_25, ↓exT_callo G5_25, ↓exT_calloG G5_25, ↓exT_call G5_18, ↓exT_callo G5_18, ↓exT_calloG G5_18, e, hc2, go_sem, Nat.reduceAdd, Nat.reduceSub, Nat.reduceMul, Nat.reduceEqDiff, Nat.reduceLeDiff, Nat.reduceLT, Nat.reduceBEq, Int.reduceLE, Int.reduceLT, Int.reduceToNat, Int.reduceNeg, Int.reduceAdd, Int.reduceSub, Int.reduceMul, ↓reduceIte]
    have hk' : ¬ 60 < (l.length : Int) := by omega
    obtain ⟨r1, r2⟩ := runN_len ⟨ss, cs⟩ l n
    have r3 : (runN ⟨ss, cs⟩ l n).sectors.length < 4000000 := by rw [show (runN ⟨ss, cs⟩ l n).sectors.length = ss.length from r1]; exact hc1
    have r4 : (runN ⟨ss, cs⟩ l n).cache.length < 4000000 := Nat.lt_of_le_of_lt r2 (by simp only; omega)
    simp (maxSteps := 4000000) only [↓exT_call G5_12, ↓exT_callo G5_12, ↓exT_calloG G5_12, ↓exT_call G5_13, ↓exT_callo G5_13, ↓exT_calloG G5_13, ↓exT_call G5_11, ↓exT_callo G5_11, ↓exT_calloG G5_11, ↓exT_call G5_24, ↓exT_callo G5_24, ↓exT_calloG G5_24, ↓exT_call G5_26, ↓exT_callo G5_26, ↓exT_calloG G5_26, ↓exT_call G5_25, ↓exT_callo G5_25, ↓exT_calloG G5_25, ↓exT_call G5_18, ↓exT_callo G5_18, ↓exT_calloG G5_18, hg.1, hk', hc2, go_sem, Nat.reduceAdd, Nat.reduceSub, Nat.reduceMul, Nat.reduceEqDiff, Nat.reduceLeDiff, Nat.reduceLT, Nat.reduceBEq, Int.reduceLE, Int.reduceLT, Int.reduceToNat, Int.reduceNeg, Int.reduceAdd, Int.reduceSub, Int.reduceMul, ↓reduceIte]
    refine awp_loopM (α := Nat) (fun i => [(1, .c (.s (.list 3 (encs opE l) h))), (2, .c (.s (.int .i64 n))), (3, .c (.ptr 3 0)), (7, .c (.ptr 7 0)), (21, .c (.s (.list 3 (encs opE l) h))), (22, .c (.s (.int .i64 l.length))), (23, .c (.s (.int .i64 i)))])
      (fun _ => [(3, .box [.s (.list 1 (encs strE ss) f), .s (.list 2 (encs wrE cs) g)]), (7, .box [.s (.list 1 (encs strE ss) false), .s (.list 2 (encs wrE cs) false)])]) (fun i => l.length - i) 0 (fun i => i ≤ l.length) (Nat.zero_le _) (Weak.meets ?_) ?_
    · simp +contextual (maxSteps := 4000000) only [↓exT_call G5_12, ↓exT_callo G5_12, ↓exT_calloG G5_12, ↓exT_call G5_13, ↓exT_callo G5_13, ↓exT_calloG G5_13, ↓exT_call G5_11, ↓exT_callo G5_11, ↓exT_calloG G5_11, ↓exT_call G5_24, ↓exT_callo G5_24, ↓exT_calloG G5_24, ↓exT_call G5_26, ↓exT_callo G5_26, ↓exT_calloG G5_26, ↓exT_call G5_25, ↓exT_callo G5_25, ↓exT_calloG G5_25, ↓exT_call G5_18, ↓exT_callo G5_18, ↓exT_calloG G5_18, go_sem, Nat.reduceAdd, Nat.reduceSub, Nat.reduceMul, Nat.reduceEqDiff, Nat.reduceLeDiff, Nat.reduceLT, Nat.reduceBEq, Int.reduceLE, Int.reduceLT, Int.reduceToNat, Int.reduceNeg, Int.reduceAdd, Int.reduceSub, Int.reduceMul, ↓reduceIte]
      simp
    intro x hx
    by_cases hxl : x < l.length
    · have hxi : (x : Int) < (l.length : Int) := by omega
      by_cases h6 : 60 < (((l.getD x default).w.data.length : Nat) : Int)
      · simp +contextual (maxSteps := 4000000) only [↓exT_call G5_12, ↓exT_callo G5_12, ↓exT_calloG G5_12, ↓exT_call G5_13, ↓exT_callo G5_13, ↓exT_calloG G5_13, ↓exT_call G5_11, ↓exT_callo G5_11, ↓exT_calloG G5_11, ↓exT_call G5_24, ↓exT_callo G5_24, ↓exT_calloG G5_24, ↓exT_call G5_26, ↓exT_callo G5_26, ↓exT_calloG G5_26, ↓exT_call G5_25, ↓exT_callo G5_25, ↓exT_calloG G5_25, ↓exT_call G5_18, ↓exT_callo G5_18, ↓exT_calloG G5_18, hxi, h6, go_sem, Nat.reduceAdd, Nat.reduceSub, Nat.reduceMul, Nat.reduceEqDiff, Nat.reduceLeDiff, Nat.reduceLT, Nat.reduceBEq, Int.reduceLE, Int.reduceLT, Int.reduceToNat, Int.reduceNeg, Int.reduceAdd, Int.reduceSub, Int.reduceMul, ↓reduceIte]
      · simp +contextual (maxSteps := 4000000) only [↓exT_call G5_12, ↓exT_callo G5_12, ↓exT_calloG G5_12, ↓exT_call G5_13, ↓exT_callo G5_13, ↓exT_calloG G5_13, ↓exT_call G5_11, ↓exT_callo G5_11, ↓exT_calloG G5_11, ↓exT_call G5_24, ↓exT_callo G5_24, ↓exT_calloG G5_24, ↓exT_call G5_26, ↓exT_callo G5_26, ↓exT_calloG G5_26, ↓exT_call G5_25, ↓exT_callo G5_25, ↓exT_calloG G5_25, ↓exT_call G5_18, ↓exT_callo G5_18, ↓exT_calloG G5_18, hxi, h6, go_sem, Nat.reduceAdd, Nat.reduceSub, Nat.reduceMul, Nat.reduceEqDiff, Nat.reduceLeDiff, Nat.reduceLT, Nat.reduceBEq, Int.reduceLE, Int.reduceLT, Int.reduceToNat, Int.reduceNeg, Int.reduceAdd, Int.reduceSub, Int.reduceMul, ↓reduceIte]
        exact ⟨by omega, x + 1, by omega, by omega, by omega⟩
    · have hxi : ¬ (x : Int) < (l.length : Int) := by omega
      simp +contextual (maxSteps := 4000000) only [↓exT_call G5_12, ↓exT_callo G5_12, ↓exT_calloG G5_12, ↓exT_call G5_13, ↓exT_callo G5_13, ↓exT_calloG G5_13, ↓exT_call G5_11, ↓exT_callo G5_11, ↓exT_calloG G5_11, ↓exT_call G5_24, ↓exT_callo G5_24, ↓exT_calloG G5_24, ↓exT_call G5_26, ↓exT_callo G5_26, ↓exT_calloG G5_26, ↓exT_call G5_25, ↓exT_callo G5_25, ↓exT_calloG G5_25, ↓exT_call G5_18, ↓exT_callo G5_18, ↓exT_calloG G5_18, hxi, hc1, hc2, hc3, r3, r4, go_sem, Nat.reduceAdd, Nat.reduceSub, Nat.reduceMul, Nat.reduceEqDiff, Nat.reduceLeDiff, Nat.reduceLT, Nat.reduceBEq, Int.reduceLE, Int.reduceLT, Int.reduceToNat, Int.reduceNeg, Int.reduceAdd, Int.reduceSub, Int.reduceMul, ↓reduceIte]

theorem num_snoc (n : Nat) : encs numE (allN n) ++ [[.int .i64 (n : Int)]] = encs numE (allN (n + 1)) := by
  rw [allN_snoc, encs_append]; rfl
def dCalmG_enc : (List Bs) × (List Wr) × (Bool) × (Bool) × (List Int) × (Bool) → List V := fun ⟨ss, cs, f, g, keep, h⟩ => [.agg [.s (.list 1 (encs strE ss) f), .s (.list 2 (encs wrE cs) g)], .c (.s (.list 1 (encs numE keep) h))]
theorem dCalmG_inj : ∀ x y, dCalmG_enc x = dCalmG_enc y → x = y := by
  rintro ⟨ss, cs, f, g, keep, h⟩ ⟨ss2, cs2, f2, g2, keep2, h2⟩ h
  simp only [dCalmG_enc, List.cons.injEq, V.c.injEq, V.agg.injEq, C.s.injEq, S.list.injEq, S.str.injEq, S.int.injEq, S.bool.injEq, S.fn.injEq, S.cref.injEq, strE_inj, true_and, and_true, wrE_inj, numE_inj] at h
  simp_all
noncomputable def dCalmG : List V → Option (V) := specE dCalmG_enc (fun ⟨ss, cs, f, g, keep, h⟩ => fitC cs.length) (fun ⟨ss, cs, f, g, keep, h⟩ => .c (.s (.bool true)))
theorem dCalmG_eq {ss : List Bs} {cs : List Wr} {f : Bool} {g : Bool} {keep : List Int} {h : Bool} [Decidable (fitC cs.length)] : dCalmG [.agg [.s (.list 1 (encs strE ss) f), .s (.list 2 (encs wrE cs) g)], .c (.s (.list 1 (encs numE keep) h))] = if fitC cs.length then some (.c (.s (.bool true))) else none := specE_eq dCalmG_inj (ss, cs, f, g, keep, h)
theorem dCalmG_call {ss : List Bs} {cs : List Wr} {f : Bool} {g : Bool} {keep : List Int} {h : Bool} {gt : Bool} {K : V → Prop} : callE dCalmG [.agg [.s (.list 1 (encs strE ss) f), .s (.list 2 (encs wrE cs) g)], .c (.s (.list 1 (encs numE keep) h))] gt K = ((gt = true → fitC cs.length) ∧ bindV (ifV gt (.c (.s (.bool true)))) K) := by
  have := Classical.propDecidable (fitC cs.length)
  exact callE_of dCalmG_eq
theorem dCalmG_callo {ss : List Bs} {cs : List Wr} {f : Bool} {g : Bool} {keep : List Int} {h : Bool} {m : Nat → Option Ab.Obj} {locs : List Nat} {K : V → (Nat → Option Ab.Obj) → Prop} : callO dCalmG (some [.agg [.s (.list 1 (encs strE ss) f), .s (.list 2 (encs wrE cs) g)], .c (.s (.list 1 (encs numE keep) h))]) m locs K = ((fitC cs.length) ∧ K (.c (.s (.bool true))) (sealW m locs (.c (.s (.bool true))))) := by
  have := Classical.propDecidable (fitC cs.length)
  exact callO_of dCalmG_eq
attribute [go_sem] dCalmG_call dCalmG_callo

def sc_law17_DiskCalm : SC := .seq (.reg [⟨some 2, .box 2, [.t 0], none⟩,
⟨some 4, .mv, [.k (.c (.s (.bool false)))], none⟩]) (.seq (.reg [⟨some 14, .load 2 true, [.t 2], none⟩,
⟨some 15, .call 12, [.t 14], none⟩,
⟨some 5, .alloc [.list 0 [] true, .list 0 [] true], [], none⟩,
⟨none, .store 2 true, [.t 5, .t 15], none⟩]) (.seq (.seq (.reg [⟨some 16, .load 2 true, [.t 5], none⟩,
⟨some 17, .call 13, [.t 16], none⟩,
⟨some 18, .not, [.t 17], none⟩,
⟨some 19, .mv, [.t 18], none⟩,
⟨some 20, .mv, [.t 1], some (19, false)⟩,
⟨some 21, .len false, [.t 20], some (19, false)⟩,
⟨some 22, .bin .gtr, [.t 21, .k (.c (.s (.int .i64 60)))], some (19, false)⟩,
⟨some 23, .pick, [.t 19, .k (.c (.s (.bool true))), .t 22], none⟩,
⟨some 24, .mv, [.t 23], none⟩,
⟨some 25, .load 2 true, [.t 5], some (24, false)⟩,
⟨some 26, .call 14, [.t 25], some (24, false)⟩,
⟨some 27, .not, [.t 26], some (24, false)⟩,
⟨some 28, .pick, [.t 24, .k (.c (.s (.bool true))), .t 27], none⟩]) (.cond (.t 28) (.seq (.reg [⟨some 29, .call 11, [], none⟩,
⟨some 4, .mv, [.t 29], none⟩]) (.ret)) (.skip))) (.seq (.reg [⟨some 30, .load 2 true, [.t 2], none⟩,
⟨some 31, .call 19, [.t 30], none⟩,
⟨some 6, .alloc [.list 0 [] true, .list 0 [] true], [], none⟩,
⟨none, .store 2 true, [.t 6, .t 31], none⟩]) (.seq (.reg [⟨some 7, .mv, [.k (.c (.s (.list 0 [] true)))], none⟩]) (.seq (.seq (.reg [⟨some 32, .fadr 1, [.t 2], none⟩,
⟨some 33, .load 1 false, [.t 32], none⟩,
⟨some 34, .len false, [.t 33], none⟩,
⟨some 35, .mv, [.k (.c (.s (.int .i64 0)))], none⟩]) (.block 0 (.loop (.seq (.reg [⟨some 36, .bin .lss, [.t 35, .t 34], none⟩]) (.seq (.cond (.t 36) (.skip) (.exit 0)) (.seq (.block 1 (.seq (.reg [⟨some 37, .mv, [.t 35], none⟩,
⟨some 8, .mv, [.t 37], none⟩]) (.reg [⟨some 38, .mv, [.t 7], none⟩,
⟨some 39, .mv, [.t 8], none⟩,
⟨some 40, .bslice 1 1 [.int .i64 0] [0], [.t 39], none⟩,
⟨some 41, .append false 1 8, [.t 38, .t 40], none⟩,
⟨some 7, .mv, [.t 41], none⟩]))) (.reg [⟨some 42, .bin .add, [.t 35, .k (.c (.s (.int .i64 1)))], none⟩,
⟨some 35, .mv, [.t 42], none⟩]))))))) (.seq (.seq (.reg [⟨some 43, .fadr 0, [.t 2], none⟩,
⟨some 44, .load 1 false, [.t 43], none⟩,
⟨some 45, .len false, [.t 44], none⟩,
⟨some 46, .mv, [.k (.c (.s (.int .i64 0)))], none⟩]) (.block 2 (.loop (.seq (.reg [⟨some 47, .bin .lss, [.t 46, .t 45], none⟩]) (.seq (.cond (.t 47) (.skip) (.exit 2)) (.seq (.block 3 (.seq (.reg [⟨some 48, .mv, [.t 46], none⟩,
⟨some 9, .mv, [.t 48], none⟩]) (.seq (.reg [⟨some 50, .load 2 true, [.t 2], none⟩,
⟨some 51, .mv, [.t 9], none⟩,
⟨some 52, .call 15, [.t 50, .t 51], none⟩,
⟨some 49, .mv, [.t 52], none⟩,
⟨some 53, .ext 0, [.t 49], none⟩,
⟨some 54, .ext 1, [.t 49], none⟩,
⟨some 10, .mv, [.t 53], none⟩,
⟨some 11, .mv, [.t 54], none⟩]) (.seq (.reg [⟨some 56, .load 2 true, [.t 6], none⟩,
⟨some 57, .mv, [.t 9], none⟩,
⟨some 58, .call 15, [.t 56, .t 57], none⟩,
⟨some 55, .mv, [.t 58], none⟩,
⟨some 59, .ext 0, [.t 55], none⟩,
⟨some 60, .ext 1, [.t 55], none⟩,
⟨some 12, .mv, [.t 59], none⟩,
⟨some 13, .mv, [.t 60], none⟩]) (.seq (.reg [⟨some 61, .mv, [.t 10], none⟩,
⟨some 62, .mv, [.t 12], none⟩,
⟨some 63, .bin .neq, [.t 61, .t 62], none⟩,
⟨some 64, .mv, [.t 63], none⟩,
⟨some 65, .mv, [.t 11], some (64, false)⟩,
⟨some 66, .bin .neq, [.t 65, .k (.c (.s (.int .i64 0)))], some (64, false)⟩,
⟨some 67, .pick, [.t 64, .k (.c (.s (.bool true))), .t 66], none⟩,
⟨some 68, .mv, [.t 67], none⟩,
⟨some 69, .mv, [.t 13], some (68, false)⟩,
⟨some 70, .bin .neq, [.t 69, .k (.c (.s (.int .i64 0)))], some (68, false)⟩,
⟨some 71, .pick, [.t 68, .k (.c (.s (.bool true))), .t 70], none⟩]) (.cond (.t 71) (.seq (.reg [⟨some 4, .mv, [.k (.c (.s (.bool false)))], none⟩]) (.ret)) (.skip))))))) (.reg [⟨some 72, .bin .add, [.t 46, .k (.c (.s (.int .i64 1)))], none⟩,
⟨some 46, .mv, [.t 72], none⟩]))))))) (.seq (.regD [⟨some 73, .load 2 true, [.t 6], none⟩,
⟨some 74, .mv, [.t 1], none⟩,
⟨some 75, .call 20, [.t 73, .t 74], none⟩,
⟨some 76, .load 2 true, [.t 6], none⟩,
⟨some 77, .call 12, [.t 76], none⟩,
⟨some 78, .call 18, [.t 75, .t 77], none⟩,
⟨some 79, .mv, [.t 78], none⟩,
⟨some 80, .load 2 true, [.t 2], some (79, true)⟩,
⟨some 81, .mv, [.t 7], some (79, true)⟩,
⟨some 82, .call 20, [.t 80, .t 81], some (79, true)⟩,
⟨some 83, .load 2 true, [.t 6], some (79, true)⟩,
⟨some 84, .call 12, [.t 83], some (79, true)⟩,
⟨some 85, .call 18, [.t 82, .t 84], some (79, true)⟩,
⟨some 86, .pick, [.t 79, .t 85, .k (.c (.s (.bool false)))], none⟩,
⟨some 87, .mv, [.t 86], none⟩,
⟨some 88, .fadr 1, [.t 6], some (87, true)⟩,
⟨some 89, .load 1 false, [.t 88], some (87, true)⟩,
⟨some 90, .len false, [.t 89], some (87, true)⟩,
⟨some 91, .bin .eql, [.t 90, .k (.c (.s (.int .i64 0)))], some (87, true)⟩,
⟨some 92, .pick, [.t 87, .t 91, .k (.c (.s (.bool false)))], none⟩,
⟨some 93, .mv, [.t 92], none⟩,
⟨some 94, .call 11, [], some (93, true)⟩,
⟨some 95, .pick, [.t 93, .t 94, .k (.c (.s (.bool false)))], none⟩,
⟨some 4, .mv, [.t 95], none⟩] [(2, 3), (9, 10)]) (.ret))))))))
noncomputable def G_law17_DiskCalm : FuncId → Ab.Spec := addS (addS (addS (addS (addS (addS (addS (addS (noS) 12 (plain refG)) 13 (plain smallG)) 14 (plain rRightG)) 11 (plain awakeG)) 19 (plain syncG)) 15 (plain readG)) 20 (plain crashG)) 18 (plain sameG)
theorem G_law17_DiskCalm_ok : ∀ f, Contract Try.prog f (G_law17_DiskCalm f) := (addS_ok (addS_ok (addS_ok (addS_ok (addS_ok (addS_ok (addS_ok (addS_ok (noS_ok _) contract_law17_Ref) contract_ref17_Small) contract_ref17_Right) contract_law17_awake) contract_disk_Sync) contract_disk_Read) contract_disk_Crash) contract_law17_same)
theorem G6_12 : G_law17_DiskCalm 12 = plain refG := by simp [G_law17_DiskCalm, addS]
theorem G6_13 : G_law17_DiskCalm 13 = plain smallG := by simp [G_law17_DiskCalm, addS]
theorem G6_14 : G_law17_DiskCalm 14 = plain rRightG := by simp [G_law17_DiskCalm, addS]
theorem G6_11 : G_law17_DiskCalm 11 = plain awakeG := by simp [G_law17_DiskCalm, addS]
theorem G6_19 : G_law17_DiskCalm 19 = plain syncG := by simp [G_law17_DiskCalm, addS]
theorem G6_15 : G_law17_DiskCalm 15 = plain readG := by simp [G_law17_DiskCalm, addS]
theorem G6_20 : G_law17_DiskCalm 20 = plain crashG := by simp [G_law17_DiskCalm, addS]
theorem G6_18 : G_law17_DiskCalm 18 = plain sameG := by simp [G_law17_DiskCalm, addS]
set_option maxHeartbeats 16000000 in
set_option maxRecDepth 1000000 in
set_option linter.unusedSimpArgs false in
set_option linter.unusedVariables false in
theorem contract_law17_DiskCalm : Contract Try.prog 6 (plain dCalmG) := by
  have hb : ∃ c, Try.f6.body = some c ∧ codeOk 96 c = true ∧ cCode Try.prog c = sc_law17_DiskCalm := ⟨_, rfl, by kernel_rfl, by kernel_rfl⟩
  obtain ⟨c, hb1, hb2, hb3⟩ := hb
  refine contract_of (n := 2) G_law17_DiskCalm_ok hB hD Try.func6 hb1 (by kernel_rfl) hb2 hb3 (rs := [.tmp 4]) (by kernel_rfl) (by decide) ?_ ?_
  · intro args x h
    obtain ⟨y, hy, -⟩ := Option.map_eq_some_iff.1 h
    obtain ⟨⟨ss, cs, f, g, keep, h⟩, rfl, -⟩ := specE_some hy
    rfl
  · intro args r hr
    obtain ⟨y, hy, rfl⟩ := Option.map_eq_some_iff.1 hr
    obtain ⟨⟨ss, cs, f, g, keep, h⟩, rfl, hc, rfl⟩ := specE_some hy
    clear hr hy
    have hc : fitC cs.length := hc
    change awp _ _ (postQ _ (.v (.c (.s (.bool true))))) _
    unfold dCalmG_enc sc_law17_DiskCalm
    have hfc := hc
    cases hsm9 : smallD ⟨ss, cs⟩ with
    | false => simp +contextual (maxSteps := 4000000) only [↓exT_call G6_12, ↓exT_callo G6_12, ↓exT_calloG G6_12, ↓exT_call G6_13, ↓exT_callo G6_13, ↓exT_calloG G6_13, ↓exT_call G6_14, ↓exT_callo G6_14, ↓exT_calloG G6_14, ↓exT_call G6_11, ↓exT_callo G6_11, ↓exT_calloG G6_11, ↓exT_call G6_19, ↓exT_callo G6_19, ↓exT_calloG G6_19, ↓exT_call G6_15, ↓exT_callo G6_15, ↓exT_calloG G6_15, ↓exT_call G6_20, ↓exT_callo G6_20, ↓exT_calloG G6_20, ↓exT_call G6_18, ↓exT_callo G6_18, ↓exT_calloG G6_18, hfc, hsm9, go_sem, Nat.reduceAdd, Nat.reduceSub, Nat.reduceMul, Nat.reduceEqDiff, Nat.reduceLeDiff, Nat.reduceLT, Nat.reduceBEq, Int.reduceLE, Int.reduceLT, Int.reduceToNat, Int.reduceNeg, Int.reduceAdd, Int.reduceSub, Int.reduceMul, ↓reduceIte]
    | true =>
    obtain ⟨hc1, hc2⟩ := small_4 hsm9
    by_cases hc3 : keep.length < 4000000
    case neg =>
      have hb9 : 60 < (keep.length : Int) := by omega
      simp +contextual (maxSteps := 4000000) only [↓exT_call G6_12, ↓exT_callo G6_12, ↓exT_calloG G6_12, ↓exT_call G6_13, ↓exT_callo G6_13, ↓exT_calloG G6_13, ↓exT_call G6_14, ↓exT_callo G6_14, ↓exT_calloG G6_14, ↓exT_call G6_11, ↓exT_callo G6_11, ↓exT_calloG G6_11, ↓exT_call G6_19, ↓exT_callo G6_19, ↓exT_calloG G6_19, ↓exT_call G6_15, ↓exT_callo G6_15, ↓exT_calloG G6_15, ↓exT_call G6_20, ↓exT_callo G6_20, ↓exT_calloG G6_20, ↓exT_call G6_18, ↓exT_callo G6_18, ↓exT_calloG G6_18, hfc, hsm9, hb9, go_sem, Nat.reduceAdd, Nat.reduceSub, Nat.reduceMul, Nat.reduceEqDiff, Nat.reduceLeDiff, Nat.reduceLT, Nat.reduceBEq, Int.reduceLE, Int.reduceLT, Int.reduceToNat, Int.reduceNeg, Int.reduceAdd, Int.reduceSub, Int.reduceMul, ↓reduceIte]
    by_cases hg : (smallD ⟨ss, cs⟩ = true ∧ keep.length ≤ 60) ∧ rightD ⟨ss, cs⟩ = true
    case neg =>
      have e : (!smallD ⟨ss, cs⟩ || decide (60 < (keep.length : Int)) || !rightD ⟨ss, cs⟩) = true := by
        rw [Bool.or_eq_true, Bool.or_eq_true, decide_eq_true_eq, Bool.not_eq_true', Bool.not_eq_true']
        by_cases h1 : smallD ⟨ss, cs⟩ = true
        · by_cases h2 : keep.length ≤ 60
          · exact .inr (by simpa using fun h => hg ⟨⟨h1, h2⟩, h⟩)
          · exact .inl (.inr (by omega))
        · exact .inl (.inl (by simpa using h1))
      simp +contextual (maxSteps := 4000000) only [↓exT_call G6_12, ↓exT_callo G6_12, ↓exT_calloG G6_12, ↓exT_call G6_13, ↓exT_callo G6_13, ↓exT_calloG G6_13, ↓exT_call G6_14, ↓exT_callo G6_14, ↓exT_calloG G6_14, ↓exT_call G6_11, ↓exT_callo G6_11, ↓exT_calloG G6_11, ↓exT_call G6_19, ↓exT_callo G6_19, ↓exT_calloG G6_19, ↓exT_call G6_15, ↓exT_callo G6_15, ↓exT_calloG G6_15, ↓exT_call G6_20, ↓exT_callo G6_20, ↓exT_calloG G6_20, ↓exT_call G6_18, ↓exT_callo G6_18, ↓exT_calloG G6_18, e, hc2, go_sem, Nat.reduceAdd, Nat.reduceSub, Nat.reduceMul, Nat.reduceEqDiff, Nat.reduceLeDiff, Nat.reduceLT, Nat.reduceBEq, Int.reduceLE, Int.reduceLT, Int.reduceToNat, Int.reduceNeg, Int.reduceAdd, Int.reduceSub, Int.reduceMul, ↓reduceIte]
    obtain ⟨⟨hsm, hk⟩, hr⟩ := hg
    have hk' : ¬ 60 < (keep.length : Int) := by omega
    have hrs := right_sync hr
    have hsc := sync_cache hr
    have hsl : (syncD ⟨ss, cs⟩).sectors.length = ss.length := (sync_len ⟨ss, cs⟩).1
    have hcn := crash_nil hrs hsc keep
    have hca : crashD ⟨ss, cs⟩ (allN cs.length) = syncD ⟨ss, cs⟩ := crash_all
    have hgs : ∀ i, i < ss.length → getS (syncD ⟨ss, cs⟩) i = getS ⟨ss, cs⟩ i := fun i hi => getS_sync hr hi
    have hcl : (syncD ⟨ss, cs⟩).cache.length = 0 := by rw [hsc]; rfl
    have hcl' : ((syncD ⟨ss, cs⟩).cache.length : Int) = 0 := by omega
    have hsl' : (syncD ⟨ss, cs⟩).sectors.length < 4000000 := by omega
    have hcl2 : (syncD ⟨ss, cs⟩).cache.length < 4000000 := by omega
    have hrd : ∀ i, i < ss.length → readD (syncD ⟨ss, cs⟩) i = (getS ⟨ss, cs⟩ i, 0) := fun i hi => by rw [read_in hrs (by omega), hgs i hi]
    generalize hsdd : syncD ⟨ss, cs⟩ = sd at *
    simp (maxSteps := 4000000) only [↓exT_call G6_12, ↓exT_callo G6_12, ↓exT_calloG G6_12, ↓exT_call G6_13, ↓exT_callo G6_13, ↓exT_calloG G6_13, ↓exT_call G6_14, ↓exT_callo G6_14, ↓exT_calloG G6_14, ↓exT_call G6_11, ↓exT_callo G6_11, ↓exT_calloG G6_11, ↓exT_call G6_19, ↓exT_callo G6_19, ↓exT_calloG G6_19, ↓exT_call G6_15, ↓exT_callo G6_15, ↓exT_calloG G6_15, ↓exT_call G6_20, ↓exT_callo G6_20, ↓exT_calloG G6_20, ↓exT_call G6_18, ↓exT_callo G6_18, ↓exT_calloG G6_18, hsdd, hsm, hk', hr, hc1, hc2, hsl', hcl2, go_sem, Nat.reduceAdd, Nat.reduceSub, Nat.reduceMul, Nat.reduceEqDiff, Nat.reduceLeDiff, Nat.reduceLT, Nat.reduceBEq, Int.reduceLE, Int.reduceLT, Int.reduceToNat, Int.reduceNeg, Int.reduceAdd, Int.reduceSub, Int.reduceMul, ↓reduceIte]
    refine awp_loopM (α := Nat) (fun i => [(1, .c (.s (.list 1 (encs numE keep) h))), (2, .c (.ptr 2 0)), (5, .c (.ptr 5 0)), (6, .c (.ptr 6 0)), (7, .c (.own 7 i)), (33, .c (.s (.list 2 (encs wrE cs) g))), (34, .c (.s (.int .i64 cs.length))), (35, .c (.s (.int .i64 i)))])
      (fun i => [(2, .box [.s (.list 1 (encs strE ss) f), .s (.list 2 (encs wrE cs) g)]), (6, .box [.s (.list 1 (encs strE sd.sectors) false), .s (.list 2 (encs wrE sd.cache) false)]), (5, .box [.s (.list 1 (encs strE ss) false), .s (.list 2 (encs wrE cs) false)]), (7, .row 1 (encs numE (allN i)))]) (fun i => cs.length - i) 0 (fun i => i ≤ cs.length) (Nat.zero_le _) (Weak.trans (Weak.nilSlot 7 7 1 rfl rfl) (Weak.meets ?_)) ?_
    · simp +contextual (maxSteps := 4000000) only [↓exT_call G6_12, ↓exT_callo G6_12, ↓exT_calloG G6_12, ↓exT_call G6_13, ↓exT_callo G6_13, ↓exT_calloG G6_13, ↓exT_call G6_14, ↓exT_callo G6_14, ↓exT_calloG G6_14, ↓exT_call G6_11, ↓exT_callo G6_11, ↓exT_calloG G6_11, ↓exT_call G6_19, ↓exT_callo G6_19, ↓exT_calloG G6_19, ↓exT_call G6_15, ↓exT_callo G6_15, ↓exT_calloG G6_15, ↓exT_call G6_20, ↓exT_callo G6_20, ↓exT_calloG G6_20, ↓exT_call G6_18, ↓exT_callo G6_18, ↓exT_calloG G6_18, go_sem, Nat.reduceAdd, Nat.reduceSub, Nat.reduceMul, Nat.reduceEqDiff, Nat.reduceLeDiff, Nat.reduceLT, Nat.reduceBEq, Int.reduceLE, Int.reduceLT, Int.reduceToNat, Int.reduceNeg, Int.reduceAdd, Int.reduceSub, Int.reduceMul, ↓reduceIte]
      simp [allN, encs]
    intro x hx
    have hl : (encs numE (allN x)).length = x := by simp [encs, allN_len]
    by_cases hxl : x < cs.length
    · have hxi : (x : Int) < (cs.length : Int) := by omega
      simp +contextual (maxSteps := 4000000) only [↓exT_call G6_12, ↓exT_callo G6_12, ↓exT_calloG G6_12, ↓exT_call G6_13, ↓exT_callo G6_13, ↓exT_calloG G6_13, ↓exT_call G6_14, ↓exT_callo G6_14, ↓exT_calloG G6_14, ↓exT_call G6_11, ↓exT_callo G6_11, ↓exT_calloG G6_11, ↓exT_call G6_19, ↓exT_callo G6_19, ↓exT_calloG G6_19, ↓exT_call G6_15, ↓exT_callo G6_15, ↓exT_calloG G6_15, ↓exT_call G6_20, ↓exT_callo G6_20, ↓exT_calloG G6_20, ↓exT_call G6_18, ↓exT_callo G6_18, ↓exT_calloG G6_18, hxi, hl, num_snoc, go_sem, Nat.reduceAdd, Nat.reduceSub, Nat.reduceMul, Nat.reduceEqDiff, Nat.reduceLeDiff, Nat.reduceLT, Nat.reduceBEq, Int.reduceLE, Int.reduceLT, Int.reduceToNat, Int.reduceNeg, Int.reduceAdd, Int.reduceSub, Int.reduceMul, ↓reduceIte]
      refine ⟨by omega, by omega, x + 1, ?_⟩
      simp [encs, allN_len]
      omega
    have hxi : ¬ (x : Int) < (cs.length : Int) := by omega
    obtain rfl : x = cs.length := by omega
    clear hxl hx
    simp (maxSteps := 4000000) only [↓exT_call G6_12, ↓exT_callo G6_12, ↓exT_calloG G6_12, ↓exT_call G6_13, ↓exT_callo G6_13, ↓exT_calloG G6_13, ↓exT_call G6_14, ↓exT_callo G6_14, ↓exT_calloG G6_14, ↓exT_call G6_11, ↓exT_callo G6_11, ↓exT_calloG G6_11, ↓exT_call G6_19, ↓exT_callo G6_19, ↓exT_calloG G6_19, ↓exT_call G6_15, ↓exT_callo G6_15, ↓exT_calloG G6_15, ↓exT_call G6_20, ↓exT_callo G6_20, ↓exT_calloG G6_20, ↓exT_call G6_18, ↓exT_callo G6_18, ↓exT_calloG G6_18, hxi, hl, go_sem, Nat.reduceAdd, Nat.reduceSub, Nat.reduceMul, Nat.reduceEqDiff, Nat.reduceLeDiff, Nat.reduceLT, Nat.reduceBEq, Int.reduceLE, Int.reduceLT, Int.reduceToNat, Int.reduceNeg, Int.reduceAdd, Int.reduceSub, Int.reduceMul, ↓reduceIte]
    refine awp_loopM (α := Nat) (fun i => [(1, .c (.s (.list 1 (encs numE keep) h))), (2, .c (.ptr 2 0)), (6, .c (.ptr 6 0)), (7, .c (.own 7 cs.length)), (45, .c (.s (.int .i64 ss.length))), (46, .c (.s (.int .i64 i)))])
      (fun _ => [(2, .box [.s (.list 1 (encs strE ss) f), .s (.list 2 (encs wrE cs) g)]), (6, .box [.s (.list 1 (encs strE sd.sectors) false), .s (.list 2 (encs wrE sd.cache) false)]), (7, .row 1 (encs numE (allN cs.length)))]) (fun i => ss.length - i) 0 (fun i => i ≤ ss.length) (Nat.zero_le _) (Weak.meets ?_) ?_
    · simp +contextual (maxSteps := 4000000) only [↓exT_call G6_12, ↓exT_callo G6_12, ↓exT_calloG G6_12, ↓exT_call G6_13, ↓exT_callo G6_13, ↓exT_calloG G6_13, ↓exT_call G6_14, ↓exT_callo G6_14, ↓exT_calloG G6_14, ↓exT_call G6_11, ↓exT_callo G6_11, ↓exT_calloG G6_11, ↓exT_call G6_19, ↓exT_callo G6_19, ↓exT_calloG G6_19, ↓exT_call G6_15, ↓exT_callo G6_15, ↓exT_calloG G6_15, ↓exT_call G6_20, ↓exT_callo G6_20, ↓exT_calloG G6_20, ↓exT_call G6_18, ↓exT_callo G6_18, ↓exT_calloG G6_18, go_sem, Nat.reduceAdd, Nat.reduceSub, Nat.reduceMul, Nat.reduceEqDiff, Nat.reduceLeDiff, Nat.reduceLT, Nat.reduceBEq, Int.reduceLE, Int.reduceLT, Int.reduceToNat, Int.reduceNeg, Int.reduceAdd, Int.reduceSub, Int.reduceMul, ↓reduceIte]
      simp
    intro y hy
    by_cases hyl : y < ss.length
    · have hyi : (y : Int) < (ss.length : Int) := by omega
      have h1 := read_in hr hyl
      have h2 := hrd y hyl
      simp (maxSteps := 4000000) only [↓exT_call G6_12, ↓exT_callo G6_12, ↓exT_calloG G6_12, ↓exT_call G6_13, ↓exT_callo G6_13, ↓exT_calloG G6_13, ↓exT_call G6_14, ↓exT_callo G6_14, ↓exT_calloG G6_14, ↓exT_call G6_11, ↓exT_callo G6_11, ↓exT_calloG G6_11, ↓exT_call G6_19, ↓exT_callo G6_19, ↓exT_calloG G6_19, ↓exT_call G6_15, ↓exT_callo G6_15, ↓exT_calloG G6_15, ↓exT_call G6_20, ↓exT_callo G6_20, ↓exT_calloG G6_20, ↓exT_call G6_18, ↓exT_callo G6_18, ↓exT_calloG G6_18, hyi, h1, h2, hc1, hc2, hsl', hcl2, go_sem, Nat.reduceAdd, Nat.reduceSub, Nat.reduceMul, Nat.reduceEqDiff, Nat.reduceLeDiff, Nat.reduceLT, Nat.reduceBEq, Int.reduceLE, Int.reduceLT, Int.reduceToNat, Int.reduceNeg, Int.reduceAdd, Int.reduceSub, Int.reduceMul, ↓reduceIte]
      exact ⟨by omega, y + 1, by omega, by omega, by omega⟩
    · have hyi : ¬ (y : Int) < (ss.length : Int) := by omega
      have hal := allN_len cs.length
      have hal' : cs.length = (encs numE (allN cs.length)).length := by rw [hl]
      have hd0 : decide ((sd.cache.length : Int) = 0) = true := decide_eq_true hcl'
      simp (maxSteps := 4000000) only [↓exT_call G6_12, ↓exT_callo G6_12, ↓exT_calloG G6_12, ↓exT_call G6_13, ↓exT_callo G6_13, ↓exT_calloG G6_13, ↓exT_call G6_14, ↓exT_callo G6_14, ↓exT_calloG G6_14, ↓exT_call G6_11, ↓exT_callo G6_11, ↓exT_calloG G6_11, ↓exT_call G6_19, ↓exT_callo G6_19, ↓exT_calloG G6_19, ↓exT_call G6_15, ↓exT_callo G6_15, ↓exT_calloG G6_15, ↓exT_call G6_20, ↓exT_callo G6_20, ↓exT_calloG G6_20, ↓exT_call G6_18, ↓exT_callo G6_18, ↓exT_calloG G6_18, hyi, hcn, hca, hc1, hc2, hc3, hsl', hcl2, hd0, hl, hal, go_sem, Nat.reduceAdd, Nat.reduceSub, Nat.reduceMul, Nat.reduceEqDiff, Nat.reduceLeDiff, Nat.reduceLT, Nat.reduceBEq, Int.reduceLE, Int.reduceLT, Int.reduceToNat, Int.reduceNeg, Int.reduceAdd, Int.reduceSub, Int.reduceMul, ↓reduceIte]

end Go.Proofs.Ytcnemnehjpaggaa
