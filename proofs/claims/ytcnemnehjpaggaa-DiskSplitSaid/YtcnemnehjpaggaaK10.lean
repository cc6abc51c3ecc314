/- The statements on disks, as functions: DiskSplit, DiskApart, DiskOne. -/
import Derived.Test.YtcnemnehjpaggaaK7
set_option linter.all false
namespace Go.Proofs.Ytcnemnehjpaggaa
open Go Go.Ab Go.Proofs Go.Fs
theorem run_all {d : Disk} {l : List DOp} : runN d l (l.length : Int) = runD d l := by unfold runN; rw [Int.toNat_natCast, List.take_length]
def dSplitG_enc : (List Bs) × (List Wr) × (Bool) × (Bool) × (List DOp) × (Bool) × (Int) → List V := fun ⟨ss, cs, f, g, l, h, a⟩ => [.agg [.s (.list 1 (encs strE ss) f), .s (.list 2 (encs wrE cs) g)], .c (.s (.list 3 (encs opE l) h)), .c (.s (.int .u8 a))]
theorem dSplitG_inj : ∀ x y, dSplitG_enc x = dSplitG_enc y → x = y := by
  rintro ⟨ss, cs, f, g, l, h, a⟩ ⟨ss2, cs2, f2, g2, l2, h2, a2⟩ h
  simp only [dSplitG_enc, List.cons.injEq, V.c.injEq, V.agg.injEq, C.s.injEq, S.list.injEq, S.str.injEq, S.int.injEq, S.bool.injEq, S.fn.injEq, S.cref.injEq, strE_inj, true_and, and_true, wrE_inj, opE_inj] at h
  simp_all
noncomputable def dSplitG : List V → Option (V) := specE dSplitG_enc (fun ⟨ss, cs, f, g, l, h, a⟩ => fitC cs.length ∧ 0 ≤ a ∧ a < 256) (fun ⟨ss, cs, f, g, l, h, a⟩ => .c (.s (.bool true)))
theorem dSplitG_eq {ss : List Bs} {cs : List Wr} {f : Bool} {g : Bool} {l : List DOp} {h : Bool} {a : Int} [Decidable (fitC cs.length ∧ 0 ≤ a ∧ a < 256)] : dSplitG [.agg [.s (.list 1 (encs strE ss) f), .s (.list 2 (encs wrE cs) g)], .c (.s (.list 3 (encs opE l) h)), .c (.s (.int .u8 a))] = if fitC cs.length ∧ 0 ≤ a ∧ a < 256 then some (.c (.s (.bool true))) else none := specE_eq dSplitG_inj (ss, cs, f, g, l, h, a)
theorem dSplitG_call {ss : List Bs} {cs : List Wr} {f : Bool} {g : Bool} {l : List DOp} {h : Bool} {a : Int} {gt : Bool} {K : V → Prop} : callE dSplitG [.agg [.s (.list 1 (encs strE ss) f), .s (.list 2 (encs wrE cs) g)], .c (.s (.list 3 (encs opE l) h)), .c (.s (.int .u8 a))] gt K = ((gt = true → fitC cs.length ∧ 0 ≤ a ∧ a < 256) ∧ bindV (ifV gt (.c (.s (.bool true)))) K) := by
  have := Classical.propDecidable (fitC cs.length ∧ 0 ≤ a ∧ a < 256)
  exact callE_of dSplitG_eq
theorem dSplitG_callo {ss : List Bs} {cs : List Wr} {f : Bool} {g : Bool} {l : List DOp} {h : Bool} {a : Int} {m : Nat → Option Ab.Obj} {locs : List Nat} {K : V → (Nat → Option Ab.Obj) → Prop} : callO dSplitG (some [.agg [.s (.list 1 (encs strE ss) f), .s (.list 2 (encs wrE cs) g)], .c (.s (.list 3 (encs opE l) h)), .c (.s (.int .u8 a))]) m locs K = ((fitC cs.length ∧ 0 ≤ a ∧ a < 256) ∧ K (.c (.s (.bool true))) (sealW m locs (.c (.s (.bool true))))) := by
  have := Classical.propDecidable (fitC cs.length ∧ 0 ≤ a ∧ a < 256)
  exact callO_of dSplitG_eq
attribute [go_sem] dSplitG_call dSplitG_callo

def sc_law17_DiskSplit : SC := .seq (.reg [⟨some 3, .box 2, [.t 0], none⟩,
⟨some 6, .mv, [.k (.c (.s (.bool false)))], none⟩]) (.seq (.seq (.reg [⟨some 12, .load 2 true, [.t 3], none⟩,
⟨some 13, .call 12, [.t 12], none⟩,
⟨some 14, .call 13, [.t 13], none⟩,
⟨some 15, .not, [.t 14], none⟩,
⟨some 16, .mv, [.t 15], none⟩,
⟨some 17, .mv, [.t 1], some (16, false)⟩,
⟨some 18, .len false, [.t 17], some (16, false)⟩,
⟨some 19, .bin .gtr, [.t 18, .k (.c (.s (.int .i64 60)))], some (16, false)⟩,
⟨some 20, .pick, [.t 16, .k (.c (.s (.bool true))), .t 19], none⟩]) (.cond (.t 20) (.seq (.reg [⟨some 21, .call 11, [], none⟩,
⟨some 6, .mv, [.t 21], none⟩]) (.ret)) (.skip))) (.seq (.seq (.reg [⟨some 22, .mv, [.t 1], none⟩,
⟨some 23, .len false, [.t 22], none⟩,
⟨some 24, .mv, [.k (.c (.s (.int .i64 0)))], none⟩]) (.block 0 (.loop (.seq (.reg [⟨some 25, .bin .lss, [.t 24, .t 23], none⟩]) (.seq (.cond (.t 25) (.skip) (.exit 0)) (.seq (.block 1 (.seq (.reg [⟨some 26, .iadr 3, [.t 22, .t 24], none⟩,
⟨some 27, .load 3 true, [.t 26], none⟩,
⟨some 8, .alloc [.bool false, .int .i64 0, .str []], [], none⟩,
⟨none, .store 3 true, [.t 8, .t 27], none⟩]) (.seq (.reg [⟨some 28, .fadr 1, [.t 8], none⟩,
⟨some 29, .fadr 1, [.t 28], none⟩,
⟨some 30, .load 1 false, [.t 29], none⟩,
⟨some 31, .len true, [.t 30], none⟩,
⟨some 32, .bin .gtr, [.t 31, .k (.c (.s (.int .i64 60)))], none⟩]) (.cond (.t 32) (.seq (.reg [⟨some 33, .call 11, [], none⟩,
⟨some 6, .mv, [.t 33], none⟩]) (.ret)) (.skip))))) (.reg [⟨some 34, .bin .add, [.t 24, .k (.c (.s (.int .i64 1)))], none⟩,
⟨some 24, .mv, [.t 34], none⟩]))))))) (.seq (.reg [⟨some 35, .mv, [.t 2], none⟩,
⟨some 36, .conv .i64, [.t 35], none⟩,
⟨some 37, .mv, [.t 1], none⟩,
⟨some 38, .len false, [.t 37], none⟩,
⟨some 39, .bin .add, [.t 38, .k (.c (.s (.int .i64 1)))], none⟩,
⟨some 40, .bin .rem, [.t 36, .t 39], none⟩,
⟨some 9, .mv, [.t 40], none⟩]) (.seq (.reg [⟨some 41, .load 2 true, [.t 3], none⟩,
⟨some 42, .mv, [.t 1], none⟩,
⟨some 43, .mv, [.t 1], none⟩,
⟨some 44, .len false, [.t 43], none⟩,
⟨some 45, .call 24, [.t 41, .t 42, .t 44], none⟩,
⟨some 10, .alloc [.list 0 [] true, .list 0 [] true], [], none⟩,
⟨none, .store 2 true, [.t 10, .t 45], none⟩]) (.seq (.regD [⟨some 46, .load 2 true, [.t 3], none⟩,
⟨some 47, .mv, [.t 1], none⟩,
⟨some 48, .mv, [.t 9], none⟩,
⟨some 49, .call 24, [.t 46, .t 47, .t 48], none⟩,
⟨some 50, .mv, [.t 1], none⟩,
⟨some 51, .mv, [.t 9], none⟩,
⟨some 52, .slcL 3 true false false, [.t 50, .t 51], none⟩,
⟨some 53, .mv, [.t 1], none⟩,
⟨some 54, .len false, [.t 53], none⟩,
⟨some 55, .call 24, [.t 49, .t 52, .t 54], none⟩,
⟨some 11, .alloc [.list 0 [] true, .list 0 [] true], [], none⟩,
⟨none, .store 2 true, [.t 11, .t 55], none⟩] [(3, 8), (0, 10), (3, 10), (8, 10), (9, 10)]) (.seq (.regD [⟨some 56, .load 2 true, [.t 10], none⟩,
⟨some 57, .load 2 true, [.t 11], none⟩,
⟨some 58, .call 12, [.t 57], none⟩,
⟨some 59, .call 18, [.t 56, .t 58], none⟩,
⟨some 60, .mv, [.t 59], none⟩,
⟨some 61, .call 11, [], some (60, true)⟩,
⟨some 62, .pick, [.t 60, .t 61, .k (.c (.s (.bool false)))], none⟩,
⟨some 6, .mv, [.t 62], none⟩] [(0, 2)]) (.ret)))))))
noncomputable def G_law17_DiskSplit : FuncId → Ab.Spec := addS (addS (addS (addS (addS (noS) 12 (plain refG)) 13 (plain smallG)) 11 (plain awakeG)) 24 (plain runG)) 18 (plain sameG)
theorem G_law17_DiskSplit_ok : ∀ f, Contract Try.prog f (G_law17_DiskSplit f) := (addS_ok (addS_ok (addS_ok (addS_ok (addS_ok (noS_ok _) contract_law17_Ref) contract_ref17_Small) contract_law17_awake) contract_disk_Run) contract_law17_same)
theorem G7_12 : G_law17_DiskSplit 12 = plain refG := by simp [G_law17_DiskSplit, addS]
theorem G7_13 : G_law17_DiskSplit 13 = plain smallG := by simp [G_law17_DiskSplit, addS]
theorem G7_11 : G_law17_DiskSplit 11 = plain awakeG := by simp [G_law17_DiskSplit, addS]
theorem G7_24 : G_law17_DiskSplit 24 = plain runG := by simp [G_law17_DiskSplit, addS]
theorem G7_18 : G_law17_DiskSplit 18 = plain sameG := by simp [G_law17_DiskSplit, addS]
set_option maxHeartbeats 16000000 in
set_option maxRecDepth 1000000 in
set_option linter.unusedSimpArgs false in
set_option linter.unusedVariables false in
theorem contract_law17_DiskSplit : Contract Try.prog 7 (plain dSplitG) := by
  have hb : ∃ c, Try.f7.body = some c ∧ codeOk 63 c = true ∧ cCode Try.prog c = sc_law17_DiskSplit := ⟨_, rfl, by kernel_rfl, by kernel_rfl⟩
  obtain ⟨c, hb1, hb2, hb3⟩ := hb
  refine contract_of (n := 3) G_law17_DiskSplit_ok hB hD Try.func7 hb1 (by kernel_rfl) hb2 hb3 (rs := [.tmp 6]) (by kernel_rfl) (by decide) ?_ ?_
  · intro args x h
    obtain ⟨y, hy, -⟩ := Option.map_eq_some_iff.1 h
    obtain ⟨⟨ss, cs, f, g, l, h, a⟩, rfl, -⟩ := specE_some hy
    rfl
  · intro args r hr
    obtain ⟨y, hy, rfl⟩ := Option.map_eq_some_iff.1 hr
    obtain ⟨⟨ss, cs, f, g, l, h, a⟩, rfl, hc, rfl⟩ := specE_some hy
    clear hr hy
    have hc : fitC cs.length ∧ 0 ≤ a ∧ a < 256 := hc
    change awp _ _ (postQ _ (.v (.c (.s (.bool true))))) _
    unfold dSplitG_enc sc_law17_DiskSplit
    obtain ⟨hc, ha⟩ := hc
    have hfc := hc
    cases hsm9 : smallD ⟨ss, cs⟩ with
    | false => simp +contextual (maxSteps := 4000000) only [↓exT_call G7_12, ↓exT_callo G7_12, ↓exT_calloG G7_12, ↓exT_call G7_13, ↓exT_callo G7_13, ↓exT_calloG G7_13, ↓exT_call G7_11, ↓exT_callo G7_11, ↓exT_calloG G7_11, ↓exT_call G7_24, ↓exT_callo G7_24, ↓exT_calloG G7_24, ↓exT_call G7_18, ↓exT_callo G7_18, ↓exT_calloG G7_18, hfc, hsm9, go_sem, Nat.reduceAdd, Nat.reduceSub, Nat.reduceMul, Nat.reduceEqDiff, Nat.reduceLeDiff, Nat.reduceLT, Nat.reduceBEq, Int.reduceLE, Int.reduceLT, Int.reduceToNat, Int.reduceNeg, Int.reduceAdd, Int.reduceSub, Int.reduceMul, ↓reduceIte]
    | true =>
    obtain ⟨hc1, hc2⟩ := small_4 hsm9
    by_cases hc3 : l.length < 4000000
    case neg =>
      have hb9 : 60 < (l.length : Int) := by omega
      simp +contextual (maxSteps := 4000000) only [↓exT_call G7_12, ↓exT_callo G7_12, ↓exT_calloG G7_12, ↓exT_call G7_13, ↓exT_callo G7_13, ↓exT_calloG G7_13, ↓exT_call G7_11, ↓exT_callo G7_11, ↓exT_calloG G7_11, ↓exT_call G7_24, ↓exT_callo G7_24, ↓exT_calloG G7_24, ↓exT_call G7_18, ↓exT_callo G7_18, ↓exT_calloG G7_18, hfc, hsm9, hb9, go_sem, Nat.reduceAdd, Nat.reduceSub, Nat.reduceMul, Nat.reduceEqDiff, Nat.reduceLeDiff, Nat.reduceLT, Nat.reduceBEq, Int.reduceLE, Int.reduceLT, Int.reduceToNat, Int.reduceNeg, Int.reduceAdd, Int.reduceSub, Int.reduceMul, ↓reduceIte]
    obtain ⟨b, rfl⟩ := byte_ex ha
    by_cases hg : smallD ⟨ss, cs⟩ = true ∧ l.length ≤ 60
    case neg =>
      have e : (!smallD ⟨ss, cs⟩ || decide (60 < (l.length : Int))) = true := by
        rw [Bool.or_eq_true, decide_eq_true_eq, Bool.not_eq_true']
        by_cases h1 : smallD ⟨ss, cs⟩ = true
        · have : ¬ l.length ≤ 60 := fun h => hg ⟨h1, h⟩
          omega
        · exact .inl (by simpa using h1)
      simp +contextual (maxSteps := 4000000) only [↓exT_call G7_12, ↓exT_callo G7_12, ↓exT_calloG G7_12, ↓exT_call G7_13, ↓exT_callo G7_13, ↓exT_calloG G7_13, ↓exT_call G7_11, ↓exT_callo G7_11, ↓exT_calloG G7_11, ↓exT_call G7_24, ↓exT_callo G7_24, ↓exT_calloG G7_24, ↓exT_call G7_18, ↓exT_callo G7_18, ↓exT_calloG G7_18, e, hc2, go_sem, Nat.reduceAdd, Nat.reduceSub, Nat.reduceMul, Nat.reduceEqDiff, Nat.reduceLeDiff, Nat.reduceLT, Nat.reduceBEq, Int.reduceLE, Int.reduceLT, Int.reduceToNat, Int.reduceNeg, Int.reduceAdd, Int.reduceSub, Int.reduceMul, ↓reduceIte]
    have hk' : ¬ 60 < (l.length : Int) := by omega
    simp (maxSteps := 4000000) only [↓exT_call G7_12, ↓exT_callo G7_12, ↓exT_calloG G7_12, ↓exT_call G7_13, ↓exT_callo G7_13, ↓exT_calloG G7_13, ↓exT_call G7_11, ↓exT_callo G7_11, ↓exT_calloG G7_11, ↓exT_call G7_24, ↓exT_callo G7_24, ↓exT_calloG G7_24, ↓exT_call G7_18, ↓exT_callo G7_18, ↓exT_calloG G7_18, hg.1, hk', hc2, go_sem, Nat.reduceAdd, Nat.reduceSub, Nat.reduceMul, Nat.reduceEqDiff, Nat.reduceLeDiff, Nat.reduceLT, Nat.reduceBEq, Int.reduceLE, Int.reduceLT, Int.reduceToNat, Int.reduceNeg, Int.reduceAdd, Int.reduceSub, Int.reduceMul, ↓reduceIte]
    refine awp_loopM (α := Nat) (fun i => [(1, .c (.s (.list 3 (encs opE l) h))), (2, .c (.s (.int .u8 b.toNat))), (3, .c (.ptr 3 0)), (22, .c (.s (.list 3 (encs opE l) h))), (23, .c (.s (.int .i64 l.length))), (24, .c (.s (.int .i64 i)))])
      (fun _ => [(3, .box [.s (.list 1 (encs strE ss) f), .s (.list 2 (encs wrE cs) g)])]) (fun i => l.length - i) 0 (fun i => i ≤ l.length) (Nat.zero_le _) (Weak.meets ?_) ?_
    · simp +contextual (maxSteps := 4000000) only [↓exT_call G7_12, ↓exT_callo G7_12, ↓exT_calloG G7_12, ↓exT_call G7_13, ↓exT_callo G7_13, ↓exT_calloG G7_13, ↓exT_call G7_11, ↓exT_callo G7_11, ↓exT_calloG G7_11, ↓exT_call G7_24, ↓exT_callo G7_24, ↓exT_calloG G7_24, ↓exT_call G7_18, ↓exT_callo G7_18, ↓exT_calloG G7_18, go_sem, Nat.reduceAdd, Nat.reduceSub, Nat.reduceMul, Nat.reduceEqDiff, Nat.reduceLeDiff, Nat.reduceLT, Nat.reduceBEq, Int.reduceLE, Int.reduceLT, Int.reduceToNat, Int.reduceNeg, Int.reduceAdd, Int.reduceSub, Int.reduceMul, ↓reduceIte]
      simp
    intro x hx
    by_cases hxl : x < l.length
    · have hxi : (x : Int) < (l.length : Int) := by omega
      by_cases h6 : 60 < (((l.getD x default).w.data.length : Nat) : Int)
      · simp +contextual (maxSteps := 4000000) only [↓exT_call G7_12, ↓exT_callo G7_12, ↓exT_calloG G7_12, ↓exT_call G7_13, ↓exT_callo G7_13, ↓exT_calloG G7_13, ↓exT_call G7_11, ↓exT_callo G7_11, ↓exT_calloG G7_11, ↓exT_call G7_24, ↓exT_callo G7_24, ↓exT_calloG G7_24, ↓exT_call G7_18, ↓exT_callo G7_18, ↓exT_calloG G7_18, hxi, h6, go_sem, Nat.reduceAdd, Nat.reduceSub, Nat.reduceMul, Nat.reduceEqDiff, Nat.reduceLeDiff, Nat.reduceLT, Nat.reduceBEq, Int.reduceLE, Int.reduceLT, Int.reduceToNat, Int.reduceNeg, Int.reduceAdd, Int.reduceSub, Int.reduceMul, ↓reduceIte]
      · simp +contextual (maxSteps := 4000000) only [↓exT_call G7_12, ↓exT_callo G7_12, ↓exT_calloG G7_12, ↓exT_call G7_13, ↓exT_callo G7_13, ↓exT_calloG G7_13, ↓exT_call G7_11, ↓exT_callo G7_11, ↓exT_calloG G7_11, ↓exT_call G7_24, ↓exT_callo G7_24, ↓exT_calloG G7_24, ↓exT_call G7_18, ↓exT_callo G7_18, ↓exT_calloG G7_18, hxi, h6, go_sem, Nat.reduceAdd, Nat.reduceSub, Nat.reduceMul, Nat.reduceEqDiff, Nat.reduceLeDiff, Nat.reduceLT, Nat.reduceBEq, Int.reduceLE, Int.reduceLT, Int.reduceToNat, Int.reduceNeg, Int.reduceAdd, Int.reduceSub, Int.reduceMul, ↓reduceIte]
        exact ⟨by omega, x + 1, by omega, by omega, by omega⟩
    have hxi : ¬ (x : Int) < (l.length : Int) := by omega
    obtain ⟨k, hk, hkl⟩ : ∃ k : Nat, ((b.toNat : Int) % ((l.length : Int) + 1)) = k ∧ k ≤ l.length := by
      have h1 := Int.emod_nonneg (b.toNat : Int) (by omega : ((l.length : Int) + 1) ≠ 0)
      have h2 := Int.emod_lt_of_pos (b.toNat : Int) (by omega : 0 < ((l.length : Int) + 1))
      exact ⟨((b.toNat : Int) % ((l.length : Int) + 1)).toNat, by omega, by omega⟩
    have hki : (k : Int) ≤ (l.length : Int) := by omega
    obtain ⟨r1, r2⟩ := run_len l ⟨ss, cs⟩
    obtain ⟨r3, r4⟩ := run_len (l.take k) ⟨ss, cs⟩
    simp only at r1 r2 r3 r4
    have hrk : runN ⟨ss, cs⟩ l (k : Int) = runD ⟨ss, cs⟩ (l.take k) := rfl
    have hra : runN ⟨ss, cs⟩ l (l.length : Int) = runD ⟨ss, cs⟩ l := run_all
    have hrs : runN (runD ⟨ss, cs⟩ (l.take k)) (l.drop k) (l.length : Int) = runD ⟨ss, cs⟩ l := by
      have h1 : (l.drop k).take l.length = l.drop k := List.take_of_length_le (by rw [List.length_drop]; omega)
      unfold runN
      rw [Int.toNat_natCast, h1, run_split]
    have hdl : (l.drop k).length < 4000000 := by simp; omega
    generalize runD ⟨ss, cs⟩ l = d1 at *
    generalize runD ⟨ss, cs⟩ (l.take k) = d2 at *
    have s1 : d1.sectors.length < 4000000 := by omega
    have s2 : d1.cache.length < 4000000 := by omega
    have s3 : d2.sectors.length < 4000000 := by omega
    have s4 : d2.cache.length < 4000000 := by omega
    have hl1 : (-9223372036854775808 ≤ (l.length : Int) + 1 ∧ (l.length : Int) + 1 ≤ 9223372036854775807) := by omega
    have hl2 : 0 < (l.length : Int) + 1 := by omega
    simp (maxSteps := 4000000) only [↓exT_call G7_12, ↓exT_callo G7_12, ↓exT_calloG G7_12, ↓exT_call G7_13, ↓exT_callo G7_13, ↓exT_calloG G7_13, ↓exT_call G7_11, ↓exT_callo G7_11, ↓exT_calloG G7_11, ↓exT_call G7_24, ↓exT_callo G7_24, ↓exT_calloG G7_24, ↓exT_call G7_18, ↓exT_callo G7_18, ↓exT_calloG G7_18, hxi, hk, hki, hrk, hra, hrs, hdl, s1, s2, s3, s4, hc1, hc2, hc3, hl1.1, hl1.2, hl2, go_sem, Nat.reduceAdd, Nat.reduceSub, Nat.reduceMul, Nat.reduceEqDiff, Nat.reduceLeDiff, Nat.reduceLT, Nat.reduceBEq, Int.reduceLE, Int.reduceLT, Int.reduceToNat, Int.reduceNeg, Int.reduceAdd, Int.reduceSub, Int.reduceMul, ↓reduceIte]

theorem two_call {gt : Bool} {K : V → Prop} {ss : List Bs} {cs : List Wr} {f g : Bool} {b1 b2 : Bool} {a1 a2 : Int} {t1 t2 : Bs} {n : Int} {fl : Bool} : callE runG [.agg [.s (.list 1 (encs strE ss) f), .s (.list 2 (encs wrE cs) g)], .c (.s (.list 3 [[.bool b1, .int .i64 a1, .str t1], [.bool b2, .int .i64 a2, .str t2]] fl)), .c (.s (.int .i64 n))] gt K =
    ((gt = true → ss.length < 4000000 ∧ cs.length < 4000000 ∧ [(⟨b1, ⟨a1, t1⟩⟩ : DOp), ⟨b2, ⟨a2, t2⟩⟩].length < 4000000) ∧ bindV (ifV gt (.agg [.s (.list 1 (encs strE (runN ⟨ss, cs⟩ [⟨b1, ⟨a1, t1⟩⟩, ⟨b2, ⟨a2, t2⟩⟩] n).sectors) false), .s (.list 2 (encs wrE (runN ⟨ss, cs⟩ [⟨b1, ⟨a1, t1⟩⟩, ⟨b2, ⟨a2, t2⟩⟩] n).cache) false)])) K) :=
  runG_call (l := [⟨b1, ⟨a1, t1⟩⟩, ⟨b2, ⟨a2, t2⟩⟩])
theorem two_callo {m : Nat → Option Ab.Obj} {locs : List Nat} {K : V → (Nat → Option Ab.Obj) → Prop} {ss : List Bs} {cs : List Wr} {f g : Bool} {b1 b2 : Bool} {a1 a2 : Int} {t1 t2 : Bs} {n : Int} {fl : Bool} : callO runG (some [.agg [.s (.list 1 (encs strE ss) f), .s (.list 2 (encs wrE cs) g)], .c (.s (.list 3 [[.bool b1, .int .i64 a1, .str t1], [.bool b2, .int .i64 a2, .str t2]] fl)), .c (.s (.int .i64 n))]) m locs K =
    ((ss.length < 4000000 ∧ cs.length < 4000000 ∧ [(⟨b1, ⟨a1, t1⟩⟩ : DOp), ⟨b2, ⟨a2, t2⟩⟩].length < 4000000) ∧ K (.agg [.s (.list 1 (encs strE (runN ⟨ss, cs⟩ [⟨b1, ⟨a1, t1⟩⟩, ⟨b2, ⟨a2, t2⟩⟩] n).sectors) false), .s (.list 2 (encs wrE (runN ⟨ss, cs⟩ [⟨b1, ⟨a1, t1⟩⟩, ⟨b2, ⟨a2, t2⟩⟩] n).cache) false)]) (sealW m locs (.agg [.s (.list 1 (encs strE (runN ⟨ss, cs⟩ [⟨b1, ⟨a1, t1⟩⟩, ⟨b2, ⟨a2, t2⟩⟩] n).sectors) false), .s (.list 2 (encs wrE (runN ⟨ss, cs⟩ [⟨b1, ⟨a1, t1⟩⟩, ⟨b2, ⟨a2, t2⟩⟩] n).cache) false)]))) :=
  runG_callo (l := [⟨b1, ⟨a1, t1⟩⟩, ⟨b2, ⟨a2, t2⟩⟩])
def dApartG_enc : (List Bs) × (List Wr) × (Bool) × (Bool) × (Int) × (Bs) × (Int) × (Bs) → List V := fun ⟨ss, cs, f, g, a1, t1, b1, u1⟩ => [.agg [.s (.list 1 (encs strE ss) f), .s (.list 2 (encs wrE cs) g)], .agg [.s (.int .i64 a1), .s (.str t1)], .agg [.s (.int .i64 b1), .s (.str u1)]]
theorem dApartG_inj : ∀ x y, dApartG_enc x = dApartG_enc y → x = y := by
  rintro ⟨ss, cs, f, g, a1, t1, b1, u1⟩ ⟨ss2, cs2, f2, g2, a12, t12, b12, u12⟩ h
  simp only [dApartG_enc, List.cons.injEq, V.c.injEq, V.agg.injEq, C.s.injEq, S.list.injEq, S.str.injEq, S.int.injEq, S.bool.injEq, S.fn.injEq, S.cref.injEq, strE_inj, true_and, and_true, wrE_inj] at h
  simp_all
noncomputable def dApartG : List V → Option (V) := specE dApartG_enc (fun ⟨ss, cs, f, g, a1, t1, b1, u1⟩ => fitC cs.length) (fun ⟨ss, cs, f, g, a1, t1, b1, u1⟩ => .c (.s (.bool true)))
theorem dApartG_eq {ss : List Bs} {cs : List Wr} {f : Bool} {g : Bool} {a1 : Int} {t1 : Bs} {b1 : Int} {u1 : Bs} [Decidable (fitC cs.length)] : dApartG [.agg [.s (.list 1 (encs strE ss) f), .s (.list 2 (encs wrE cs) g)], .agg [.s (.int .i64 a1), .s (.str t1)], .agg [.s (.int .i64 b1), .s (.str u1)]] = if fitC cs.length then some (.c (.s (.bool true))) else none := specE_eq dApartG_inj (ss, cs, f, g, a1, t1, b1, u1)
theorem dApartG_call {ss : List Bs} {cs : List Wr} {f : Bool} {g : Bool} {a1 : Int} {t1 : Bs} {b1 : Int} {u1 : Bs} {gt : Bool} {K : V → Prop} : callE dApartG [.agg [.s (.list 1 (encs strE ss) f), .s (.list 2 (encs wrE cs) g)], .agg [.s (.int .i64 a1), .s (.str t1)], .agg [.s (.int .i64 b1), .s (.str u1)]] gt K = ((gt = true → fitC cs.length) ∧ bindV (ifV gt (.c (.s (.bool true)))) K) := by
  have := Classical.propDecidable (fitC cs.length)
  exact callE_of dApartG_eq
theorem dApartG_callo {ss : List Bs} {cs : List Wr} {f : Bool} {g : Bool} {a1 : Int} {t1 : Bs} {b1 : Int} {u1 : Bs} {m : Nat → Option Ab.Obj} {locs : List Nat} {K : V → (Nat → Option Ab.Obj) → Prop} : callO dApartG (some [.agg [.s (.list 1 (encs strE ss) f), .s (.list 2 (encs wrE cs) g)], .agg [.s (.int .i64 a1), .s (.str t1)], .agg [.s (.int .i64 b1), .s (.str u1)]]) m locs K = ((fitC cs.length) ∧ K (.c (.s (.bool true))) (sealW m locs (.c (.s (.bool true))))) := by
  have := Classical.propDecidable (fitC cs.length)
  exact callO_of dApartG_eq
attribute [go_sem] dApartG_call dApartG_callo

def sc_law17_DiskApart : SC := .seq (.reg [⟨some 3, .box 2, [.t 0], none⟩,
⟨some 4, .box 2, [.t 1], none⟩,
⟨some 5, .box 2, [.t 2], none⟩,
⟨some 6, .mv, [.k (.c (.s (.bool false)))], none⟩]) (.seq (.seq (.reg [⟨some 14, .load 2 true, [.t 3], none⟩,
⟨some 15, .call 12, [.t 14], none⟩,
⟨some 16, .call 13, [.t 15], none⟩,
⟨some 17, .not, [.t 16], none⟩,
⟨some 18, .mv, [.t 17], none⟩,
⟨some 19, .load 2 true, [.t 3], some (18, false)⟩,
⟨some 20, .call 17, [.t 19], some (18, false)⟩,
⟨some 21, .not, [.t 20], some (18, false)⟩,
⟨some 22, .pick, [.t 18, .k (.c (.s (.bool true))), .t 21], none⟩,
⟨some 23, .mv, [.t 22], none⟩,
⟨some 24, .fadr 1, [.t 4], some (23, false)⟩,
⟨some 25, .load 1 false, [.t 24], some (23, false)⟩,
⟨some 26, .len true, [.t 25], some (23, false)⟩,
⟨some 27, .bin .gtr, [.t 26, .k (.c (.s (.int .i64 60)))], some (23, false)⟩,
⟨some 28, .pick, [.t 23, .k (.c (.s (.bool true))), .t 27], none⟩,
⟨some 29, .mv, [.t 28], none⟩,
⟨some 30, .fadr 1, [.t 5], some (29, false)⟩,
⟨some 31, .load 1 false, [.t 30], some (29, false)⟩,
⟨some 32, .len true, [.t 31], some (29, false)⟩,
⟨some 33, .bin .gtr, [.t 32, .k (.c (.s (.int .i64 60)))], some (29, false)⟩,
⟨some 34, .pick, [.t 29, .k (.c (.s (.bool true))), .t 33], none⟩,
⟨some 35, .mv, [.t 34], none⟩,
⟨some 36, .fadr 0, [.t 4], some (35, false)⟩,
⟨some 37, .load 1 false, [.t 36], some (35, false)⟩,
⟨some 38, .fadr 0, [.t 5], some (35, false)⟩,
⟨some 39, .load 1 false, [.t 38], some (35, false)⟩,
⟨some 40, .bin .eql, [.t 37, .t 39], some (35, false)⟩,
⟨some 41, .pick, [.t 35, .k (.c (.s (.bool true))), .t 40], none⟩,
⟨some 42, .mv, [.t 41], none⟩,
⟨some 43, .fadr 1, [.t 3], some (42, false)⟩,
⟨some 44, .load 1 false, [.t 43], some (42, false)⟩,
⟨some 45, .len false, [.t 44], some (42, false)⟩,
⟨some 46, .bin .gtr, [.t 45, .k (.c (.s (.int .i64 698)))], some (42, false)⟩,
⟨some 47, .pick, [.t 42, .k (.c (.s (.bool true))), .t 46], none⟩]) (.cond (.t 47) (.seq (.reg [⟨some 48, .call 11, [], none⟩,
⟨some 6, .mv, [.t 48], none⟩]) (.ret)) (.skip))) (.seq (.reg [⟨some 49, .load 2 true, [.t 3], none⟩,
⟨some 50, .load 2 true, [.t 4], none⟩,
⟨some 51, .build [.bool false, .int .i64 0, .str []] [(1, 2)], [.t 50], none⟩,
⟨some 52, .load 2 true, [.t 5], none⟩,
⟨some 53, .build [.bool false, .int .i64 0, .str []] [(1, 2)], [.t 52], none⟩,
⟨some 54, .bslice 3 2 [.bool false, .int .i64 0, .str []] [0, 1], [.t 51, .t 53], none⟩,
⟨some 55, .call 24, [.t 49, .t 54, .k (.c (.s (.int .i64 2)))], none⟩,
⟨some 7, .alloc [.list 0 [] true, .list 0 [] true], [], none⟩,
⟨none, .store 2 true, [.t 7, .t 55], none⟩]) (.seq (.reg [⟨some 56, .load 2 true, [.t 3], none⟩,
⟨some 57, .load 2 true, [.t 5], none⟩,
⟨some 58, .build [.bool false, .int .i64 0, .str []] [(1, 2)], [.t 57], none⟩,
⟨some 59, .load 2 true, [.t 4], none⟩,
⟨some 60, .build [.bool false, .int .i64 0, .str []] [(1, 2)], [.t 59], none⟩,
⟨some 61, .bslice 3 2 [.bool false, .int .i64 0, .str []] [0, 1], [.t 58, .t 60], none⟩,
⟨some 62, .call 24, [.t 56, .t 61, .k (.c (.s (.int .i64 2)))], none⟩,
⟨some 8, .alloc [.list 0 [] true, .list 0 [] true], [], none⟩,
⟨none, .store 2 true, [.t 8, .t 62], none⟩]) (.seq (.seq (.reg [⟨some 63, .fadr 0, [.t 3], none⟩,
⟨some 64, .load 1 false, [.t 63], none⟩,
⟨some 65, .len false, [.t 64], none⟩,
⟨some 66, .mv, [.k (.c (.s (.int .i64 0)))], none⟩]) (.block 0 (.loop (.seq (.reg [⟨some 67, .bin .lss, [.t 66, .t 65], none⟩]) (.seq (.cond (.t 67) (.skip) (.exit 0)) (.seq (.block 1 (.seq (.reg [⟨some 68, .mv, [.t 66], none⟩,
⟨some 9, .mv, [.t 68], none⟩]) (.seq (.reg [⟨some 70, .load 2 true, [.t 7], none⟩,
⟨some 71, .mv, [.t 9], none⟩,
⟨some 72, .call 15, [.t 70, .t 71], none⟩,
⟨some 69, .mv, [.t 72], none⟩,
⟨some 73, .ext 0, [.t 69], none⟩,
⟨some 74, .ext 1, [.t 69], none⟩,
⟨some 10, .mv, [.t 73], none⟩,
⟨some 11, .mv, [.t 74], none⟩]) (.seq (.reg [⟨some 76, .load 2 true, [.t 8], none⟩,
⟨some 77, .mv, [.t 9], none⟩,
⟨some 78, .call 15, [.t 76, .t 77], none⟩,
⟨some 75, .mv, [.t 78], none⟩,
⟨some 79, .ext 0, [.t 75], none⟩,
⟨some 80, .ext 1, [.t 75], none⟩,
⟨some 12, .mv, [.t 79], none⟩,
⟨some 13, .mv, [.t 80], none⟩]) (.seq (.reg [⟨some 81, .mv, [.t 10], none⟩,
⟨some 82, .mv, [.t 12], none⟩,
⟨some 83, .bin .neq, [.t 81, .t 82], none⟩,
⟨some 84, .mv, [.t 83], none⟩,
⟨some 85, .mv, [.t 11], some (84, false)⟩,
⟨some 86, .bin .neq, [.t 85, .k (.c (.s (.int .i64 0)))], some (84, false)⟩,
⟨some 87, .pick, [.t 84, .k (.c (.s (.bool true))), .t 86], none⟩,
⟨some 88, .mv, [.t 87], none⟩,
⟨some 89, .mv, [.t 13], some (88, false)⟩,
⟨some 90, .bin .neq, [.t 89, .k (.c (.s (.int .i64 0)))], some (88, false)⟩,
⟨some 91, .pick, [.t 88, .k (.c (.s (.bool true))), .t 90], none⟩]) (.cond (.t 91) (.seq (.reg [⟨some 6, .mv, [.k (.c (.s (.bool false)))], none⟩]) (.ret)) (.skip))))))) (.reg [⟨some 92, .bin .add, [.t 66, .k (.c (.s (.int .i64 1)))], none⟩,
⟨some 66, .mv, [.t 92], none⟩]))))))) (.seq (.regD [⟨some 93, .load 2 true, [.t 7], none⟩,
⟨some 94, .call 19, [.t 93], none⟩,
⟨some 95, .load 2 true, [.t 8], none⟩,
⟨some 96, .call 19, [.t 95], none⟩,
⟨some 97, .call 12, [.t 96], none⟩,
⟨some 98, .call 18, [.t 94, .t 97], none⟩,
⟨some 99, .mv, [.t 98], none⟩,
⟨some 100, .call 11, [], some (99, true)⟩,
⟨some 101, .pick, [.t 99, .t 100, .k (.c (.s (.bool false)))], none⟩,
⟨some 6, .mv, [.t 101], none⟩] [(1, 2)]) (.ret))))))
noncomputable def G_law17_DiskApart : FuncId → Ab.Spec := addS (addS (addS (addS (addS (addS (addS (addS (noS) 12 (plain refG)) 13 (plain smallG)) 17 (plain rightG)) 11 (plain awakeG)) 24 (plain runG)) 15 (plain readG)) 19 (plain syncG)) 18 (plain sameG)
theorem G_law17_DiskApart_ok : ∀ f, Contract Try.prog f (G_law17_DiskApart f) := (addS_ok (addS_ok (addS_ok (addS_ok (addS_ok (addS_ok (addS_ok (addS_ok (noS_ok _) contract_law17_Ref) contract_ref17_Small) contract_disk_Right) contract_law17_awake) contract_disk_Run) contract_disk_Read) contract_disk_Sync) contract_law17_same)
theorem G8_12 : G_law17_DiskApart 12 = plain refG := by simp [G_law17_DiskApart, addS]
theorem G8_13 : G_law17_DiskApart 13 = plain smallG := by simp [G_law17_DiskApart, addS]
theorem G8_17 : G_law17_DiskApart 17 = plain rightG := by simp [G_law17_DiskApart, addS]
theorem G8_11 : G_law17_DiskApart 11 = plain awakeG := by simp [G_law17_DiskApart, addS]
theorem G8_24 : G_law17_DiskApart 24 = plain runG := by simp [G_law17_DiskApart, addS]
theorem G8_15 : G_law17_DiskApart 15 = plain readG := by simp [G_law17_DiskApart, addS]
theorem G8_19 : G_law17_DiskApart 19 = plain syncG := by simp [G_law17_DiskApart, addS]
theorem G8_18 : G_law17_DiskApart 18 = plain sameG := by simp [G_law17_DiskApart, addS]
set_option maxHeartbeats 16000000 in
set_option maxRecDepth 1000000 in
set_option linter.unusedSimpArgs false in
set_option linter.unusedVariables false in
theorem contract_law17_DiskApart : Contract Try.prog 8 (plain dApartG) := by
  have hb : ∃ c, Try.f8.body = some c ∧ codeOk 102 c = true ∧ cCode Try.prog c = sc_law17_DiskApart := ⟨_, rfl, by kernel_rfl, by kernel_rfl⟩
  obtain ⟨c, hb1, hb2, hb3⟩ := hb
  refine contract_of (n := 3) G_law17_DiskApart_ok hB hD Try.func8 hb1 (by kernel_rfl) hb2 hb3 (rs := [.tmp 6]) (by kernel_rfl) (by decide) ?_ ?_
  · intro args x h
    obtain ⟨y, hy, -⟩ := Option.map_eq_some_iff.1 h
    obtain ⟨⟨ss, cs, f, g, a1, t1, b1, u1⟩, rfl, -⟩ := specE_some hy
    rfl
  · intro args r hr
    obtain ⟨y, hy, rfl⟩ := Option.map_eq_some_iff.1 hr
    obtain ⟨⟨ss, cs, f, g, a1, t1, b1, u1⟩, rfl, hc, rfl⟩ := specE_some hy
    clear hr hy
    have hc : fitC cs.length := hc
    change awp _ _ (postQ _ (.v (.c (.s (.bool true))))) _
    unfold dApartG_enc sc_law17_DiskApart
    have hfc := hc
    cases hsm9 : smallD ⟨ss, cs⟩ with
    | false => simp +contextual (maxSteps := 4000000) only [↓exT_call G8_12, ↓exT_callo G8_12, ↓exT_calloG G8_12, ↓exT_call G8_13, ↓exT_callo G8_13, ↓exT_calloG G8_13, ↓exT_call G8_17, ↓exT_callo G8_17, ↓exT_calloG G8_17, ↓exT_call G8_11, ↓exT_callo G8_11, ↓exT_calloG G8_11, ↓exT_call G8_24, ↓exT_callo G8_24, ↓exT_calloG G8_24, ↓exT_call G8_15, ↓exT_callo G8_15, ↓exT_calloG G8_15, ↓exT_call G8_19, ↓exT_callo G8_19, ↓exT_calloG G8_19, ↓exT_call G8_18, ↓exT_callo G8_18, ↓exT_calloG G8_18, hfc, hsm9, go_sem, Nat.reduceAdd, Nat.reduceSub, Nat.reduceMul, Nat.reduceEqDiff, Nat.reduceLeDiff, Nat.reduceLT, Nat.reduceBEq, Int.reduceLE, Int.reduceLT, Int.reduceToNat, Int.reduceNeg, Int.reduceAdd, Int.reduceSub, Int.reduceMul, ↓reduceIte]
    | true =>
    obtain ⟨hc1, hc2⟩ := small_4 hsm9
    cases hsm : smallD ⟨ss, cs⟩ with
    | false => simp +contextual (maxSteps := 4000000) only [↓exT_call G8_12, ↓exT_callo G8_12, ↓exT_calloG G8_12, ↓exT_call G8_13, ↓exT_callo G8_13, ↓exT_calloG G8_13, ↓exT_call G8_17, ↓exT_callo G8_17, ↓exT_calloG G8_17, ↓exT_call G8_11, ↓exT_callo G8_11, ↓exT_calloG G8_11, ↓exT_call G8_24, ↓exT_callo G8_24, ↓exT_calloG G8_24, ↓exT_call G8_15, ↓exT_callo G8_15, ↓exT_calloG G8_15, ↓exT_call G8_19, ↓exT_callo G8_19, ↓exT_calloG G8_19, ↓exT_call G8_18, ↓exT_callo G8_18, ↓exT_calloG G8_18, hsm, hc1, hc2, go_sem, Nat.reduceAdd, Nat.reduceSub, Nat.reduceMul, Nat.reduceEqDiff, Nat.reduceLeDiff, Nat.reduceLT, Nat.reduceBEq, Int.reduceLE, Int.reduceLT, Int.reduceToNat, Int.reduceNeg, Int.reduceAdd, Int.reduceSub, Int.reduceMul, ↓reduceIte]
    | true =>
    cases hr : rightD ⟨ss, cs⟩ with
    | false => simp +contextual (maxSteps := 4000000) only [↓exT_call G8_12, ↓exT_callo G8_12, ↓exT_calloG G8_12, ↓exT_call G8_13, ↓exT_callo G8_13, ↓exT_calloG G8_13, ↓exT_call G8_17, ↓exT_callo G8_17, ↓exT_calloG G8_17, ↓exT_call G8_11, ↓exT_callo G8_11, ↓exT_calloG G8_11, ↓exT_call G8_24, ↓exT_callo G8_24, ↓exT_calloG G8_24, ↓exT_call G8_15, ↓exT_callo G8_15, ↓exT_calloG G8_15, ↓exT_call G8_19, ↓exT_callo G8_19, ↓exT_calloG G8_19, ↓exT_call G8_18, ↓exT_callo G8_18, ↓exT_calloG G8_18, hsm, hr, hc1, hc2, go_sem, Nat.reduceAdd, Nat.reduceSub, Nat.reduceMul, Nat.reduceEqDiff, Nat.reduceLeDiff, Nat.reduceLT, Nat.reduceBEq, Int.reduceLE, Int.reduceLT, Int.reduceToNat, Int.reduceNeg, Int.reduceAdd, Int.reduceSub, Int.reduceMul, ↓reduceIte]
    | true =>
    by_cases g1 : 60 < (t1.length : Int)
    case pos => simp +contextual (maxSteps := 4000000) only [↓exT_call G8_12, ↓exT_callo G8_12, ↓exT_calloG G8_12, ↓exT_call G8_13, ↓exT_callo G8_13, ↓exT_calloG G8_13, ↓exT_call G8_17, ↓exT_callo G8_17, ↓exT_calloG G8_17, ↓exT_call G8_11, ↓exT_callo G8_11, ↓exT_calloG G8_11, ↓exT_call G8_24, ↓exT_callo G8_24, ↓exT_calloG G8_24, ↓exT_call G8_15, ↓exT_callo G8_15, ↓exT_calloG G8_15, ↓exT_call G8_19, ↓exT_callo G8_19, ↓exT_calloG G8_19, ↓exT_call G8_18, ↓exT_callo G8_18, ↓exT_calloG G8_18, hsm, hr, g1, hc1, hc2, go_sem, Nat.reduceAdd, Nat.reduceSub, Nat.reduceMul, Nat.reduceEqDiff, Nat.reduceLeDiff, Nat.reduceLT, Nat.reduceBEq, Int.reduceLE, Int.reduceLT, Int.reduceToNat, Int.reduceNeg, Int.reduceAdd, Int.reduceSub, Int.reduceMul, ↓reduceIte]
    by_cases g2 : 60 < (u1.length : Int)
    case pos => simp +contextual (maxSteps := 4000000) only [↓exT_call G8_12, ↓exT_callo G8_12, ↓exT_calloG G8_12, ↓exT_call G8_13, ↓exT_callo G8_13, ↓exT_calloG G8_13, ↓exT_call G8_17, ↓exT_callo G8_17, ↓exT_calloG G8_17, ↓exT_call G8_11, ↓exT_callo G8_11, ↓exT_calloG G8_11, ↓exT_call G8_24, ↓exT_callo G8_24, ↓exT_calloG G8_24, ↓exT_call G8_15, ↓exT_callo G8_15, ↓exT_calloG G8_15, ↓exT_call G8_19, ↓exT_callo G8_19, ↓exT_calloG G8_19, ↓exT_call G8_18, ↓exT_callo G8_18, ↓exT_calloG G8_18, hsm, hr, g1, g2, hc1, hc2, go_sem, Nat.reduceAdd, Nat.reduceSub, Nat.reduceMul, Nat.reduceEqDiff, Nat.reduceLeDiff, Nat.reduceLT, Nat.reduceBEq, Int.reduceLE, Int.reduceLT, Int.reduceToNat, Int.reduceNeg, Int.reduceAdd, Int.reduceSub, Int.reduceMul, ↓reduceIte]
    by_cases g3 : a1 = b1
    case pos => simp +contextual (maxSteps := 4000000) only [↓exT_call G8_12, ↓exT_callo G8_12, ↓exT_calloG G8_12, ↓exT_call G8_13, ↓exT_callo G8_13, ↓exT_calloG G8_13, ↓exT_call G8_17, ↓exT_callo G8_17, ↓exT_calloG G8_17, ↓exT_call G8_11, ↓exT_callo G8_11, ↓exT_calloG G8_11, ↓exT_call G8_24, ↓exT_callo G8_24, ↓exT_calloG G8_24, ↓exT_call G8_15, ↓exT_callo G8_15, ↓exT_calloG G8_15, ↓exT_call G8_19, ↓exT_callo G8_19, ↓exT_calloG G8_19, ↓exT_call G8_18, ↓exT_callo G8_18, ↓exT_calloG G8_18, hsm, hr, g1, g2, g3, hc1, hc2, go_sem, Nat.reduceAdd, Nat.reduceSub, Nat.reduceMul, Nat.reduceEqDiff, Nat.reduceLeDiff, Nat.reduceLT, Nat.reduceBEq, Int.reduceLE, Int.reduceLT, Int.reduceToNat, Int.reduceNeg, Int.reduceAdd, Int.reduceSub, Int.reduceMul, ↓reduceIte]
    by_cases g4 : 698 < (cs.length : Int)
    case pos => simp +contextual (maxSteps := 4000000) only [↓exT_call G8_12, ↓exT_callo G8_12, ↓exT_calloG G8_12, ↓exT_call G8_13, ↓exT_callo G8_13, ↓exT_calloG G8_13, ↓exT_call G8_17, ↓exT_callo G8_17, ↓exT_calloG G8_17, ↓exT_call G8_11, ↓exT_callo G8_11, ↓exT_calloG G8_11, ↓exT_call G8_24, ↓exT_callo G8_24, ↓exT_calloG G8_24, ↓exT_call G8_15, ↓exT_callo G8_15, ↓exT_calloG G8_15, ↓exT_call G8_19, ↓exT_callo G8_19, ↓exT_calloG G8_19, ↓exT_call G8_18, ↓exT_callo G8_18, ↓exT_calloG G8_18, hsm, hr, g1, g2, g3, g4, hc1, hc2, go_sem, Nat.reduceAdd, Nat.reduceSub, Nat.reduceMul, Nat.reduceEqDiff, Nat.reduceLeDiff, Nat.reduceLT, Nat.reduceBEq, Int.reduceLE, Int.reduceLT, Int.reduceToNat, Int.reduceNeg, Int.reduceAdd, Int.reduceSub, Int.reduceMul, ↓reduceIte]
    have hne : (⟨a1, t1⟩ : Wr).loc ≠ (⟨b1, u1⟩ : Wr).loc := g3
    have hle : (⟨ss, cs⟩ : Disk).cache.length ≤ 698 := by simp only; omega
    have p1 : runN ⟨ss, cs⟩ [⟨false, ⟨a1, t1⟩⟩, ⟨false, ⟨b1, u1⟩⟩] 2 = runD ⟨ss, cs⟩ [⟨false, ⟨a1, t1⟩⟩, ⟨false, ⟨b1, u1⟩⟩] := rfl
    have p2 : runN ⟨ss, cs⟩ [⟨false, ⟨b1, u1⟩⟩, ⟨false, ⟨a1, t1⟩⟩] 2 = runD ⟨ss, cs⟩ [⟨false, ⟨b1, u1⟩⟩, ⟨false, ⟨a1, t1⟩⟩] := rfl
    have e1 := fun i => getS_apart hr hle hne i
    have e2 := sync_apart hr hle hne
    obtain ⟨r1, r2⟩ := run_len [⟨false, ⟨a1, t1⟩⟩, ⟨false, ⟨b1, u1⟩⟩] ⟨ss, cs⟩
    obtain ⟨r3, r4⟩ := run_len [⟨false, ⟨b1, u1⟩⟩, ⟨false, ⟨a1, t1⟩⟩] ⟨ss, cs⟩
    have k1 := right_run hr [⟨false, ⟨a1, t1⟩⟩, ⟨false, ⟨b1, u1⟩⟩]
    have k2 := right_run hr [⟨false, ⟨b1, u1⟩⟩, ⟨false, ⟨a1, t1⟩⟩]
    generalize runD ⟨ss, cs⟩ [⟨false, ⟨a1, t1⟩⟩, ⟨false, ⟨b1, u1⟩⟩] = d1 at *
    generalize runD ⟨ss, cs⟩ [⟨false, ⟨b1, u1⟩⟩, ⟨false, ⟨a1, t1⟩⟩] = d2 at *
    simp only at r1 r2 r3 r4
    have s1 : d1.sectors.length < 4000000 := by omega
    have s2 : d1.cache.length < 4000000 := by omega
    have s3 : d2.sectors.length < 4000000 := by omega
    have s4 : d2.cache.length < 4000000 := by omega
    have w1 := sync_len d2
    have w2 : (syncD d2).sectors.length < 4000000 := by omega
    have w3 : (syncD d2).cache.length < 4000000 := by omega
    simp (maxSteps := 4000000) only [↓exT_call G8_12, ↓exT_callo G8_12, ↓exT_calloG G8_12, ↓exT_call G8_13, ↓exT_callo G8_13, ↓exT_calloG G8_13, ↓exT_call G8_17, ↓exT_callo G8_17, ↓exT_calloG G8_17, ↓exT_call G8_11, ↓exT_callo G8_11, ↓exT_calloG G8_11, ↓exT_call G8_24, ↓exT_callo G8_24, ↓exT_calloG G8_24, ↓exT_call G8_15, ↓exT_callo G8_15, ↓exT_calloG G8_15, ↓exT_call G8_19, ↓exT_callo G8_19, ↓exT_calloG G8_19, ↓exT_call G8_18, ↓exT_callo G8_18, ↓exT_calloG G8_18, hsm, hr, g1, g2, g3, g4, p1, p2, hc1, hc2, two_call, two_callo, go_sem, Nat.reduceAdd, Nat.reduceSub, Nat.reduceMul, Nat.reduceEqDiff, Nat.reduceLeDiff, Nat.reduceLT, Nat.reduceBEq, Int.reduceLE, Int.reduceLT, Int.reduceToNat, Int.reduceNeg, Int.reduceAdd, Int.reduceSub, Int.reduceMul, ↓reduceIte]
    refine awp_loopM (α := Nat) (fun i => [(7, .c (.ptr 7 0)), (8, .c (.ptr 8 0)), (65, .c (.s (.int .i64 ss.length))), (66, .c (.s (.int .i64 i)))])
      (fun _ => [(7, .box [.s (.list 1 (encs strE (d1).sectors) false), .s (.list 2 (encs wrE (d1).cache) false)]), (8, .box [.s (.list 1 (encs strE (d2).sectors) false), .s (.list 2 (encs wrE (d2).cache) false)])]) (fun i => ss.length - i) 0 (fun i => i ≤ ss.length) (Nat.zero_le _) (Weak.meets ?_) ?_
    · simp (maxSteps := 4000000) only [↓exT_call G8_12, ↓exT_callo G8_12, ↓exT_calloG G8_12, ↓exT_call G8_13, ↓exT_callo G8_13, ↓exT_calloG G8_13, ↓exT_call G8_17, ↓exT_callo G8_17, ↓exT_calloG G8_17, ↓exT_call G8_11, ↓exT_callo G8_11, ↓exT_calloG G8_11, ↓exT_call G8_24, ↓exT_callo G8_24, ↓exT_calloG G8_24, ↓exT_call G8_15, ↓exT_callo G8_15, ↓exT_calloG G8_15, ↓exT_call G8_19, ↓exT_callo G8_19, ↓exT_calloG G8_19, ↓exT_call G8_18, ↓exT_callo G8_18, ↓exT_calloG G8_18, go_sem, Nat.reduceAdd, Nat.reduceSub, Nat.reduceMul, Nat.reduceEqDiff, Nat.reduceLeDiff, Nat.reduceLT, Nat.reduceBEq, Int.reduceLE, Int.reduceLT, Int.reduceToNat, Int.reduceNeg, Int.reduceAdd, Int.reduceSub, Int.reduceMul, ↓reduceIte]
      simp
    intro y hy
    by_cases hyl : y < ss.length
    · have hyi : (y : Int) < (ss.length : Int) := by omega
      have h1 := read_in k1 (i := y) (by omega)
      have h2 := read_in k2 (i := y) (by omega)
      rw [← e1 y] at h2
      simp (maxSteps := 4000000) only [↓exT_call G8_12, ↓exT_callo G8_12, ↓exT_calloG G8_12, ↓exT_call G8_13, ↓exT_callo G8_13, ↓exT_calloG G8_13, ↓exT_call G8_17, ↓exT_callo G8_17, ↓exT_calloG G8_17, ↓exT_call G8_11, ↓exT_callo G8_11, ↓exT_calloG G8_11, ↓exT_call G8_24, ↓exT_callo G8_24, ↓exT_calloG G8_24, ↓exT_call G8_15, ↓exT_callo G8_15, ↓exT_calloG G8_15, ↓exT_call G8_19, ↓exT_callo G8_19, ↓exT_calloG G8_19, ↓exT_call G8_18, ↓exT_callo G8_18, ↓exT_calloG G8_18, hyi, h1, h2, s1, s2, s3, s4, go_sem, Nat.reduceAdd, Nat.reduceSub, Nat.reduceMul, Nat.reduceEqDiff, Nat.reduceLeDiff, Nat.reduceLT, Nat.reduceBEq, Int.reduceLE, Int.reduceLT, Int.reduceToNat, Int.reduceNeg, Int.reduceAdd, Int.reduceSub, Int.reduceMul, ↓reduceIte]
      exact ⟨by omega, y + 1, by omega, by omega, by omega⟩
    · have hyi : ¬ (y : Int) < (ss.length : Int) := by omega
      simp (maxSteps := 4000000) only [↓exT_call G8_12, ↓exT_callo G8_12, ↓exT_calloG G8_12, ↓exT_call G8_13, ↓exT_callo G8_13, ↓exT_calloG G8_13, ↓exT_call G8_17, ↓exT_callo G8_17, ↓exT_calloG G8_17, ↓exT_call G8_11, ↓exT_callo G8_11, ↓exT_calloG G8_11, ↓exT_call G8_24, ↓exT_callo G8_24, ↓exT_calloG G8_24, ↓exT_call G8_15, ↓exT_callo G8_15, ↓exT_calloG G8_15, ↓exT_call G8_19, ↓exT_callo G8_19, ↓exT_calloG G8_19, ↓exT_call G8_18, ↓exT_callo G8_18, ↓exT_calloG G8_18, hyi, e2, s1, s2, s3, s4, w2, w3, go_sem, Nat.reduceAdd, Nat.reduceSub, Nat.reduceMul, Nat.reduceEqDiff, Nat.reduceLeDiff, Nat.reduceLT, Nat.reduceBEq, Int.reduceLE, Int.reduceLT, Int.reduceToNat, Int.reduceNeg, Int.reduceAdd, Int.reduceSub, Int.reduceMul, ↓reduceIte]

def dOneG_enc : (List Bs) × (List Wr) × (Bool) × (Bool) × (List Int) × (Bool) → List V := fun ⟨ss, cs, f, g, keep, h⟩ => [.agg [.s (.list 1 (encs strE ss) f), .s (.list 2 (encs wrE cs) g)], .c (.s (.list 1 (encs numE keep) h))]
theorem dOneG_inj : ∀ x y, dOneG_enc x = dOneG_enc y → x = y := by
  rintro ⟨ss, cs, f, g, keep, h⟩ ⟨ss2, cs2, f2, g2, keep2, h2⟩ h
  simp only [dOneG_enc, List.cons.injEq, V.c.injEq, V.agg.injEq, C.s.injEq, S.list.injEq, S.str.injEq, S.int.injEq, S.bool.injEq, S.fn.injEq, S.cref.injEq, strE_inj, true_and, and_true, wrE_inj, numE_inj] at h
  simp_all
noncomputable def dOneG : List V → Option (V) := specE dOneG_enc (fun ⟨ss, cs, f, g, keep, h⟩ => fitC cs.length) (fun ⟨ss, cs, f, g, keep, h⟩ => .c (.s (.bool true)))
theorem dOneG_eq {ss : List Bs} {cs : List Wr} {f : Bool} {g : Bool} {keep : List Int} {h : Bool} [Decidable (fitC cs.length)] : dOneG [.agg [.s (.list 1 (encs strE ss) f), .s (.list 2 (encs wrE cs) g)], .c (.s (.list 1 (encs numE keep) h))] = if fitC cs.length then some (.c (.s (.bool true))) else none := specE_eq dOneG_inj (ss, cs, f, g, keep, h)
theorem dOneG_call {ss : List Bs} {cs : List Wr} {f : Bool} {g : Bool} {keep : List Int} {h : Bool} {gt : Bool} {K : V → Prop} : callE dOneG [.agg [.s (.list 1 (encs strE ss) f), .s (.list 2 (encs wrE cs) g)], .c (.s (.list 1 (encs numE keep) h))] gt K = ((gt = true → fitC cs.length) ∧ bindV (ifV gt (.c (.s (.bool true)))) K) := by
  have := Classical.propDecidable (fitC cs.length)
  exact callE_of dOneG_eq
theorem dOneG_callo {ss : List Bs} {cs : List Wr} {f : Bool} {g : Bool} {keep : List Int} {h : Bool} {m : Nat → Option Ab.Obj} {locs : List Nat} {K : V → (Nat → Option Ab.Obj) → Prop} : callO dOneG (some [.agg [.s (.list 1 (encs strE ss) f), .s (.list 2 (encs wrE cs) g)], .c (.s (.list 1 (encs numE keep) h))]) m locs K = ((fitC cs.length) ∧ K (.c (.s (.bool true))) (sealW m locs (.c (.s (.bool true))))) := by
  have := Classical.propDecidable (fitC cs.length)
  exact callO_of dOneG_eq
attribute [go_sem] dOneG_call dOneG_callo

def sc_law17_DiskOne : SC := .seq (.reg [⟨some 2, .box 2, [.t 0], none⟩,
⟨some 4, .mv, [.k (.c (.s (.bool false)))], none⟩]) (.seq (.seq (.reg [⟨some 11, .load 2 true, [.t 2], none⟩,
⟨some 12, .call 12, [.t 11], none⟩,
⟨some 13, .call 13, [.t 12], none⟩,
⟨some 14, .not, [.t 13], none⟩,
⟨some 15, .mv, [.t 14], none⟩,
⟨some 16, .load 2 true, [.t 2], some (15, false)⟩,
⟨some 17, .call 17, [.t 16], some (15, false)⟩,
⟨some 18, .not, [.t 17], some (15, false)⟩,
⟨some 19, .pick, [.t 15, .k (.c (.s (.bool true))), .t 18], none⟩,
⟨some 20, .mv, [.t 19], none⟩,
⟨some 21, .mv, [.t 1], some (20, false)⟩,
⟨some 22, .len false, [.t 21], some (20, false)⟩,
⟨some 23, .bin .gtr, [.t 22, .k (.c (.s (.int .i64 60)))], some (20, false)⟩,
⟨some 24, .pick, [.t 20, .k (.c (.s (.bool true))), .t 23], none⟩]) (.cond (.t 24) (.seq (.reg [⟨some 25, .call 11, [], none⟩,
⟨some 4, .mv, [.t 25], none⟩]) (.ret)) (.skip))) (.seq (.reg [⟨some 26, .load 2 true, [.t 2], none⟩,
⟨some 27, .mv, [.t 1], none⟩,
⟨some 28, .call 20, [.t 26, .t 27], none⟩,
⟨some 5, .alloc [.list 0 [] true, .list 0 [] true], [], none⟩,
⟨none, .store 2 true, [.t 5, .t 28], none⟩]) (.seq (.seq (.reg [⟨some 29, .fadr 1, [.t 5], none⟩,
⟨some 30, .load 1 false, [.t 29], none⟩,
⟨some 31, .len false, [.t 30], none⟩,
⟨some 32, .bin .neq, [.t 31, .k (.c (.s (.int .i64 0)))], none⟩,
⟨some 33, .mv, [.t 32], none⟩,
⟨some 34, .fadr 0, [.t 5], some (33, false)⟩,
⟨some 35, .load 1 false, [.t 34], some (33, false)⟩,
⟨some 36, .len false, [.t 35], some (33, false)⟩,
⟨some 37, .fadr 0, [.t 2], some (33, false)⟩,
⟨some 38, .load 1 false, [.t 37], some (33, false)⟩,
⟨some 39, .len false, [.t 38], some (33, false)⟩,
⟨some 40, .bin .neq, [.t 36, .t 39], some (33, false)⟩,
⟨some 41, .pick, [.t 33, .k (.c (.s (.bool true))), .t 40], none⟩]) (.cond (.t 41) (.seq (.reg [⟨some 4, .mv, [.k (.c (.s (.bool false)))], none⟩]) (.ret)) (.skip))) (.seq (.seq (.reg [⟨some 42, .fadr 0, [.t 5], none⟩,
⟨some 43, .load 1 false, [.t 42], none⟩,
⟨some 44, .len false, [.t 43], none⟩,
⟨some 45, .mv, [.k (.c (.s (.int .i64 0)))], none⟩]) (.block 0 (.loop (.seq (.reg [⟨some 46, .bin .lss, [.t 45, .t 44], none⟩]) (.seq (.cond (.t 46) (.skip) (.exit 0)) (.seq (.block 1 (.seq (.reg [⟨some 47, .mv, [.t 45], none⟩,
⟨some 48, .iadr 1, [.t 43, .t 45], none⟩,
⟨some 49, .load 1 false, [.t 48], none⟩,
⟨some 6, .mv, [.t 47], none⟩,
⟨some 7, .mv, [.t 49], none⟩]) (.seq (.reg [⟨some 50, .mv, [.t 7], none⟩,
⟨some 51, .fadr 0, [.t 2], none⟩,
⟨some 52, .load 1 false, [.t 51], none⟩,
⟨some 53, .mv, [.t 6], none⟩,
⟨some 54, .iadr 1, [.t 52, .t 53], none⟩,
⟨some 55, .load 1 false, [.t 54], none⟩,
⟨some 56, .bin .eql, [.t 50, .t 55], none⟩,
⟨some 8, .mv, [.t 56], none⟩]) (.seq (.seq (.reg [⟨some 57, .fadr 1, [.t 2], none⟩,
⟨some 58, .load 1 false, [.t 57], none⟩,
⟨some 59, .len false, [.t 58], none⟩,
⟨some 60, .mv, [.k (.c (.s (.int .i64 0)))], none⟩]) (.block 2 (.loop (.seq (.reg [⟨some 61, .bin .lss, [.t 60, .t 59], none⟩]) (.seq (.cond (.t 61) (.skip) (.exit 2)) (.seq (.block 3 (.seq (.reg [⟨some 62, .iadr 2, [.t 58, .t 60], none⟩,
⟨some 63, .load 2 true, [.t 62], none⟩,
⟨some 10, .alloc [.int .i64 0, .str []], [], none⟩,
⟨none, .store 2 true, [.t 10, .t 63], none⟩]) (.reg [⟨some 64, .mv, [.t 8], none⟩,
⟨some 65, .mv, [.t 64], none⟩,
⟨some 66, .fadr 0, [.t 10], some (65, false)⟩,
⟨some 67, .load 1 false, [.t 66], some (65, false)⟩,
⟨some 68, .mv, [.t 6], some (65, false)⟩,
⟨some 69, .bin .eql, [.t 67, .t 68], some (65, false)⟩,
⟨some 70, .mv, [.t 69], some (65, false)⟩,
⟨some 71, .fadr 1, [.t 10], some (70, true)⟩,
⟨some 72, .load 1 false, [.t 71], some (70, true)⟩,
⟨some 73, .mv, [.t 7], some (70, true)⟩,
⟨some 74, .bin .eql, [.t 72, .t 73], some (70, true)⟩,
⟨some 75, .pick, [.t 70, .t 74, .k (.c (.s (.bool false)))], some (65, false)⟩,
⟨some 76, .pick, [.t 65, .k (.c (.s (.bool true))), .t 75], none⟩,
⟨some 8, .mv, [.t 76], none⟩]))) (.reg [⟨some 77, .bin .add, [.t 60, .k (.c (.s (.int .i64 1)))], none⟩,
⟨some 60, .mv, [.t 77], none⟩]))))))) (.seq (.reg [⟨some 78, .mv, [.t 8], none⟩,
⟨some 79, .not, [.t 78], none⟩]) (.cond (.t 79) (.seq (.reg [⟨some 4, .mv, [.k (.c (.s (.bool false)))], none⟩]) (.ret)) (.skip))))))) (.reg [⟨some 80, .bin .add, [.t 45, .k (.c (.s (.int .i64 1)))], none⟩,
⟨some 45, .mv, [.t 80], none⟩]))))))) (.seq (.reg [⟨some 81, .call 11, [], none⟩,
⟨some 4, .mv, [.t 81], none⟩]) (.ret))))))
noncomputable def G_law17_DiskOne : FuncId → Ab.Spec := addS (addS (addS (addS (addS (noS) 12 (plain refG)) 13 (plain smallG)) 17 (plain rightG)) 11 (plain awakeG)) 20 (plain crashG)
theorem G_law17_DiskOne_ok : ∀ f, Contract Try.prog f (G_law17_DiskOne f) := (addS_ok (addS_ok (addS_ok (addS_ok (addS_ok (noS_ok _) contract_law17_Ref) contract_ref17_Small) contract_disk_Right) contract_law17_awake) contract_disk_Crash)
theorem G9_12 : G_law17_DiskOne 12 = plain refG := by simp [G_law17_DiskOne, addS]
theorem G9_13 : G_law17_DiskOne 13 = plain smallG := by simp [G_law17_DiskOne, addS]
theorem G9_17 : G_law17_DiskOne 17 = plain rightG := by simp [G_law17_DiskOne, addS]
theorem G9_11 : G_law17_DiskOne 11 = plain awakeG := by simp [G_law17_DiskOne, addS]
theorem G9_20 : G_law17_DiskOne 20 = plain crashG := by simp [G_law17_DiskOne, addS]
set_option maxHeartbeats 16000000 in
set_option maxRecDepth 1000000 in
set_option linter.unusedSimpArgs false in
set_option linter.unusedVariables false in
theorem contract_law17_DiskOne : Contract Try.prog 9 (plain dOneG) := by
  have hb : ∃ c, Try.f9.body = some c ∧ codeOk 82 c = true ∧ cCode Try.prog c = sc_law17_DiskOne := ⟨_, rfl, by kernel_rfl, by kernel_rfl⟩
  obtain ⟨c, hb1, hb2, hb3⟩ := hb
  refine contract_of (n := 2) G_law17_DiskOne_ok hB hD Try.func9 hb1 (by kernel_rfl) hb2 hb3 (rs := [.tmp 4]) (by kernel_rfl) (by decide) ?_ ?_
  · intro args x h
    obtain ⟨y, hy, -⟩ := Option.map_eq_some_iff.1 h
    obtain ⟨⟨ss, cs, f, g, keep, h⟩, rfl, -⟩ := specE_some hy
    rfl
  · intro args r hr
    obtain ⟨y, hy, rfl⟩ := Option.map_eq_some_iff.1 hr
    obtain ⟨⟨ss, cs, f, g, keep, h⟩, rfl, hc, rfl⟩ := specE_some hy
    clear hr hy
    have hc : fitC cs.length := hc
    change awp _ _ (postQ _ (.v (.c (.s (.bool true))))) _
    unfold dOneG_enc sc_law17_DiskOne
    have hfc := hc
    cases hsm9 : smallD ⟨ss, cs⟩ with
    | false => simp +contextual (maxSteps := 4000000) only [↓exT_call G9_12, ↓exT_callo G9_12, ↓exT_calloG G9_12, ↓exT_call G9_13, ↓exT_callo G9_13, ↓exT_calloG G9_13, ↓exT_call G9_17, ↓exT_callo G9_17, ↓exT_calloG G9_17, ↓exT_call G9_11, ↓exT_callo G9_11, ↓exT_calloG G9_11, ↓exT_call G9_20, ↓exT_callo G9_20, ↓exT_calloG G9_20, hfc, hsm9, go_sem, Nat.reduceAdd, Nat.reduceSub, Nat.reduceMul, Nat.reduceEqDiff, Nat.reduceLeDiff, Nat.reduceLT, Nat.reduceBEq, Int.reduceLE, Int.reduceLT, Int.reduceToNat, Int.reduceNeg, Int.reduceAdd, Int.reduceSub, Int.reduceMul, ↓reduceIte]
    | true =>
    obtain ⟨hc1, hc2⟩ := small_4 hsm9
    by_cases hc3 : keep.length < 4000000
    case neg =>
      have hb9 : 60 < (keep.length : Int) := by omega
      cases hr9 : rightD ⟨ss, cs⟩ with
      | false => simp +contextual (maxSteps := 4000000) only [↓exT_call G9_12, ↓exT_callo G9_12, ↓exT_calloG G9_12, ↓exT_call G9_13, ↓exT_callo G9_13, ↓exT_calloG G9_13, ↓exT_call G9_17, ↓exT_callo G9_17, ↓exT_calloG G9_17, ↓exT_call G9_11, ↓exT_callo G9_11, ↓exT_calloG G9_11, ↓exT_call G9_20, ↓exT_callo G9_20, ↓exT_calloG G9_20, hfc, hsm9, hb9, hr9, hc1, hc2, go_sem, Nat.reduceAdd, Nat.reduceSub, Nat.reduceMul, Nat.reduceEqDiff, Nat.reduceLeDiff, Nat.reduceLT, Nat.reduceBEq, Int.reduceLE, Int.reduceLT, Int.reduceToNat, Int.reduceNeg, Int.reduceAdd, Int.reduceSub, Int.reduceMul, ↓reduceIte]
      | true => simp +contextual (maxSteps := 4000000) only [↓exT_call G9_12, ↓exT_callo G9_12, ↓exT_calloG G9_12, ↓exT_call G9_13, ↓exT_callo G9_13, ↓exT_calloG G9_13, ↓exT_call G9_17, ↓exT_callo G9_17, ↓exT_calloG G9_17, ↓exT_call G9_11, ↓exT_callo G9_11, ↓exT_calloG G9_11, ↓exT_call G9_20, ↓exT_callo G9_20, ↓exT_calloG G9_20, hfc, hsm9, hb9, hr9, hc1, hc2, go_sem, Nat.reduceAdd, Nat.reduceSub, Nat.reduceMul, Nat.reduceEqDiff, Nat.reduceLeDiff, Nat.reduceLT, Nat.reduceBEq, Int.reduceLE, Int.reduceLT, Int.reduceToNat, Int.reduceNeg, Int.reduceAdd, Int.reduceSub, Int.reduceMul, ↓reduceIte]
    cases hsm : smallD ⟨ss, cs⟩ with
    | false => simp +contextual (maxSteps := 4000000) only [↓exT_call G9_12, ↓exT_callo G9_12, ↓exT_calloG G9_12, ↓exT_call G9_13, ↓exT_callo G9_13, ↓exT_calloG G9_13, ↓exT_call G9_17, ↓exT_callo G9_17, ↓exT_calloG G9_17, ↓exT_call G9_11, ↓exT_callo G9_11, ↓exT_calloG G9_11, ↓exT_call G9_20, ↓exT_callo G9_20, ↓exT_calloG G9_20, hsm, hc1, hc2, go_sem, Nat.reduceAdd, Nat.reduceSub, Nat.reduceMul, Nat.reduceEqDiff, Nat.reduceLeDiff, Nat.reduceLT, Nat.reduceBEq, Int.reduceLE, Int.reduceLT, Int.reduceToNat, Int.reduceNeg, Int.reduceAdd, Int.reduceSub, Int.reduceMul, ↓reduceIte]
    | true =>
    cases hr : rightD ⟨ss, cs⟩ with
    | false => simp +contextual (maxSteps := 4000000) only [↓exT_call G9_12, ↓exT_callo G9_12, ↓exT_calloG G9_12, ↓exT_call G9_13, ↓exT_callo G9_13, ↓exT_calloG G9_13, ↓exT_call G9_17, ↓exT_callo G9_17, ↓exT_calloG G9_17, ↓exT_call G9_11, ↓exT_callo G9_11, ↓exT_calloG G9_11, ↓exT_call G9_20, ↓exT_callo G9_20, ↓exT_calloG G9_20, hsm, hr, hc1, hc2, go_sem, Nat.reduceAdd, Nat.reduceSub, Nat.reduceMul, Nat.reduceEqDiff, Nat.reduceLeDiff, Nat.reduceLT, Nat.reduceBEq, Int.reduceLE, Int.reduceLT, Int.reduceToNat, Int.reduceNeg, Int.reduceAdd, Int.reduceSub, Int.reduceMul, ↓reduceIte]
    | true =>
    by_cases g1 : 60 < (keep.length : Int)
    case pos => simp +contextual (maxSteps := 4000000) only [↓exT_call G9_12, ↓exT_callo G9_12, ↓exT_calloG G9_12, ↓exT_call G9_13, ↓exT_callo G9_13, ↓exT_calloG G9_13, ↓exT_call G9_17, ↓exT_callo G9_17, ↓exT_calloG G9_17, ↓exT_call G9_11, ↓exT_callo G9_11, ↓exT_calloG G9_11, ↓exT_call G9_20, ↓exT_callo G9_20, ↓exT_calloG G9_20, hsm, hr, g1, hc1, hc2, go_sem, Nat.reduceAdd, Nat.reduceSub, Nat.reduceMul, Nat.reduceEqDiff, Nat.reduceLeDiff, Nat.reduceLT, Nat.reduceBEq, Int.reduceLE, Int.reduceLT, Int.reduceToNat, Int.reduceNeg, Int.reduceAdd, Int.reduceSub, Int.reduceMul, ↓reduceIte]
    have l1 : (crashD ⟨ss, cs⟩ keep).cache.length = 0 := by rw [crash_cache hr]; rfl
    have l2 : (crashD ⟨ss, cs⟩ keep).sectors.length = ss.length := (crash_len ⟨ss, cs⟩ keep).1
    have l1' : decide (((crashD ⟨ss, cs⟩ keep).cache.length : Int) = 0) = true := decide_eq_true (by omega)
    have l2' : decide (((crashD ⟨ss, cs⟩ keep).sectors.length : Int) = (ss.length : Int)) = true := decide_eq_true (by omega)
    have hone := fun i (hi : i < ss.length) => crash_one hr keep (i := i) hi
    simp only at hone
    generalize hcd : crashD ⟨ss, cs⟩ keep = cd at *
    simp (maxSteps := 4000000) only [↓exT_call G9_12, ↓exT_callo G9_12, ↓exT_calloG G9_12, ↓exT_call G9_13, ↓exT_callo G9_13, ↓exT_calloG G9_13, ↓exT_call G9_17, ↓exT_callo G9_17, ↓exT_calloG G9_17, ↓exT_call G9_11, ↓exT_callo G9_11, ↓exT_calloG G9_11, ↓exT_call G9_20, ↓exT_callo G9_20, ↓exT_calloG G9_20, hsm, hr, g1, hcd, l1', l2', hc1, hc2, hc3, go_sem, Nat.reduceAdd, Nat.reduceSub, Nat.reduceMul, Nat.reduceEqDiff, Nat.reduceLeDiff, Nat.reduceLT, Nat.reduceBEq, Int.reduceLE, Int.reduceLT, Int.reduceToNat, Int.reduceNeg, Int.reduceAdd, Int.reduceSub, Int.reduceMul, ↓reduceIte]
    refine awp_loopM (α := Nat) (fun i => [(2, .c (.ptr 2 0)), (43, .c (.s (.list 1 (encs strE cd.sectors) false))), (44, .c (.s (.int .i64 cd.sectors.length))), (45, .c (.s (.int .i64 i)))])
      (fun _ => [(2, .box [.s (.list 1 (encs strE ss) f), .s (.list 2 (encs wrE cs) g)])]) (fun i => ss.length - i) 0 (fun i => i ≤ ss.length) (Nat.zero_le _) (Weak.meets ?_) ?_
    · simp (maxSteps := 4000000) only [↓exT_call G9_12, ↓exT_callo G9_12, ↓exT_calloG G9_12, ↓exT_call G9_13, ↓exT_callo G9_13, ↓exT_calloG G9_13, ↓exT_call G9_17, ↓exT_callo G9_17, ↓exT_calloG G9_17, ↓exT_call G9_11, ↓exT_callo G9_11, ↓exT_calloG G9_11, ↓exT_call G9_20, ↓exT_callo G9_20, ↓exT_calloG G9_20, go_sem, Nat.reduceAdd, Nat.reduceSub, Nat.reduceMul, Nat.reduceEqDiff, Nat.reduceLeDiff, Nat.reduceLT, Nat.reduceBEq, Int.reduceLE, Int.reduceLT, Int.reduceToNat, Int.reduceNeg, Int.reduceAdd, Int.reduceSub, Int.reduceMul, ↓reduceIte]
      simp
    intro x hx
    by_cases hxl : x < ss.length
    case neg =>
      have hxi : ¬ (x : Int) < (cd.sectors.length : Int) := by omega
      simp (maxSteps := 4000000) only [↓exT_call G9_12, ↓exT_callo G9_12, ↓exT_calloG G9_12, ↓exT_call G9_13, ↓exT_callo G9_13, ↓exT_calloG G9_13, ↓exT_call G9_17, ↓exT_callo G9_17, ↓exT_calloG G9_17, ↓exT_call G9_11, ↓exT_callo G9_11, ↓exT_calloG G9_11, ↓exT_call G9_20, ↓exT_callo G9_20, ↓exT_calloG G9_20, hxi, go_sem, Nat.reduceAdd, Nat.reduceSub, Nat.reduceMul, Nat.reduceEqDiff, Nat.reduceLeDiff, Nat.reduceLT, Nat.reduceBEq, Int.reduceLE, Int.reduceLT, Int.reduceToNat, Int.reduceNeg, Int.reduceAdd, Int.reduceSub, Int.reduceMul, ↓reduceIte]
    have hxi : (x : Int) < (cd.sectors.length : Int) := by omega
    have hxs : (x : Int) < (ss.length : Int) := by omega
    have hon := hone x hxl
    simp (maxSteps := 4000000) only [↓exT_call G9_12, ↓exT_callo G9_12, ↓exT_calloG G9_12, ↓exT_call G9_13, ↓exT_callo G9_13, ↓exT_calloG G9_13, ↓exT_call G9_17, ↓exT_callo G9_17, ↓exT_calloG G9_17, ↓exT_call G9_11, ↓exT_callo G9_11, ↓exT_calloG G9_11, ↓exT_call G9_20, ↓exT_callo G9_20, ↓exT_calloG G9_20, hxi, hxs, go_sem, Nat.reduceAdd, Nat.reduceSub, Nat.reduceMul, Nat.reduceEqDiff, Nat.reduceLeDiff, Nat.reduceLT, Nat.reduceBEq, Int.reduceLE, Int.reduceLT, Int.reduceToNat, Int.reduceNeg, Int.reduceAdd, Int.reduceSub, Int.reduceMul, ↓reduceIte]
    refine awp_loopM (α := Nat) (fun i => [(2, .c (.ptr 2 0)), (43, .c (.s (.list 1 (encs strE cd.sectors) false))), (44, .c (.s (.int .i64 cd.sectors.length))), (45, .c (.s (.int .i64 x))), (6, .c (.s (.int .i64 x))), (7, .c (.s (.str (cd.sectors.getD x default)))), (8, .c (.s (.bool (decide (cd.sectors.getD x default = ss.getD x default) || (cs.take i).any fun w => decide (w.loc = x) && decide (w.data = cd.sectors.getD x default))))), (58, .c (.s (.list 2 (encs wrE cs) g))), (59, .c (.s (.int .i64 cs.length))), (60, .c (.s (.int .i64 i)))])
      (fun _ => [(2, .box [.s (.list 1 (encs strE ss) f), .s (.list 2 (encs wrE cs) g)])]) (fun i => cs.length - i) 0 (fun i => i ≤ cs.length) (Nat.zero_le _) (Weak.meets ?_) ?_
    · simp (maxSteps := 4000000) only [↓exT_call G9_12, ↓exT_callo G9_12, ↓exT_calloG G9_12, ↓exT_call G9_13, ↓exT_callo G9_13, ↓exT_calloG G9_13, ↓exT_call G9_17, ↓exT_callo G9_17, ↓exT_calloG G9_17, ↓exT_call G9_11, ↓exT_callo G9_11, ↓exT_calloG G9_11, ↓exT_call G9_20, ↓exT_callo G9_20, ↓exT_calloG G9_20, go_sem, Nat.reduceAdd, Nat.reduceSub, Nat.reduceMul, Nat.reduceEqDiff, Nat.reduceLeDiff, Nat.reduceLT, Nat.reduceBEq, Int.reduceLE, Int.reduceLT, Int.reduceToNat, Int.reduceNeg, Int.reduceAdd, Int.reduceSub, Int.reduceMul, ↓reduceIte]
      simp
    intro y hy
    by_cases hyl : y < cs.length
    · have hyi : (y : Int) < (cs.length : Int) := by omega
      have ht := take_getD hyl
      have e : (cs.take (y + 1)).any (fun w => decide (w.loc = x) && decide (w.data = cd.sectors.getD x default)) = ((cs.take y).any (fun w => decide (w.loc = x) && decide (w.data = cd.sectors.getD x default)) || (decide ((cs.getD y default).loc = x) && decide ((cs.getD y default).data = cd.sectors.getD x default))) := by
        rw [ht, List.any_append, List.any_cons, List.any_nil, Bool.or_false]
      generalize hu : (decide (cd.sectors.getD x default = ss.getD x default) || (cs.take y).any fun w => decide (w.loc = x) && decide (w.data = cd.sectors.getD x default)) = u
      have e2 : (decide (cd.sectors.getD x default = ss.getD x default) || (cs.take (y + 1)).any fun w => decide (w.loc = x) && decide (w.data = cd.sectors.getD x default)) = (u || (decide ((cs.getD y default).loc = x) && decide ((cs.getD y default).data = cd.sectors.getD x default))) := by
        rw [e, ← hu, Bool.or_assoc]
      cases u with
      | true =>
        simp (maxSteps := 4000000) only [↓exT_call G9_12, ↓exT_callo G9_12, ↓exT_calloG G9_12, ↓exT_call G9_13, ↓exT_callo G9_13, ↓exT_calloG G9_13, ↓exT_call G9_17, ↓exT_callo G9_17, ↓exT_calloG G9_17, ↓exT_call G9_11, ↓exT_callo G9_11, ↓exT_calloG G9_11, ↓exT_call G9_20, ↓exT_callo G9_20, ↓exT_calloG G9_20, hyi, go_sem, Nat.reduceAdd, Nat.reduceSub, Nat.reduceMul, Nat.reduceEqDiff, Nat.reduceLeDiff, Nat.reduceLT, Nat.reduceBEq, Int.reduceLE, Int.reduceLT, Int.reduceToNat, Int.reduceNeg, Int.reduceAdd, Int.reduceSub, Int.reduceMul, ↓reduceIte]
        refine ⟨by omega, y + 1, by omega, by omega, ?_⟩
        rw [e2]; simp
      | false =>
        by_cases hloc : (cs.getD y default).loc = x
        · simp (maxSteps := 4000000) only [↓exT_call G9_12, ↓exT_callo G9_12, ↓exT_calloG G9_12, ↓exT_call G9_13, ↓exT_callo G9_13, ↓exT_calloG G9_13, ↓exT_call G9_17, ↓exT_callo G9_17, ↓exT_calloG G9_17, ↓exT_call G9_11, ↓exT_callo G9_11, ↓exT_calloG G9_11, ↓exT_call G9_20, ↓exT_callo G9_20, ↓exT_calloG G9_20, hyi, hloc, go_sem, Nat.reduceAdd, Nat.reduceSub, Nat.reduceMul, Nat.reduceEqDiff, Nat.reduceLeDiff, Nat.reduceLT, Nat.reduceBEq, Int.reduceLE, Int.reduceLT, Int.reduceToNat, Int.reduceNeg, Int.reduceAdd, Int.reduceSub, Int.reduceMul, ↓reduceIte]
          refine ⟨by omega, y + 1, by omega, by omega, ?_⟩
          rw [e2, decide_eq_true hloc]; simp
        · simp (maxSteps := 4000000) only [↓exT_call G9_12, ↓exT_callo G9_12, ↓exT_calloG G9_12, ↓exT_call G9_13, ↓exT_callo G9_13, ↓exT_calloG G9_13, ↓exT_call G9_17, ↓exT_callo G9_17, ↓exT_calloG G9_17, ↓exT_call G9_11, ↓exT_callo G9_11, ↓exT_calloG G9_11, ↓exT_call G9_20, ↓exT_callo G9_20, ↓exT_calloG G9_20, hyi, hloc, go_sem, Nat.reduceAdd, Nat.reduceSub, Nat.reduceMul, Nat.reduceEqDiff, Nat.reduceLeDiff, Nat.reduceLT, Nat.reduceBEq, Int.reduceLE, Int.reduceLT, Int.reduceToNat, Int.reduceNeg, Int.reduceAdd, Int.reduceSub, Int.reduceMul, ↓reduceIte]
          refine ⟨by omega, y + 1, by omega, by omega, ?_⟩
          rw [e2, decide_eq_false hloc]; simp
    · have hyi : ¬ (y : Int) < (cs.length : Int) := by omega
      obtain rfl : y = cs.length := by omega
      have hall : (decide (cd.sectors.getD x default = ss.getD x default) || cs.any fun w => decide (w.loc = x) && decide (w.data = cd.sectors.getD x default)) = true := by
        rcases hon with h1 | ⟨w, hw, h2, h3⟩
        · rw [decide_eq_true h1]; rfl
        · rw [Bool.or_eq_true]; right
          exact List.any_eq_true.2 ⟨w, hw, by rw [decide_eq_true h2, decide_eq_true h3]; rfl⟩
      rw [List.take_length, hall]
      simp (maxSteps := 4000000) only [↓exT_call G9_12, ↓exT_callo G9_12, ↓exT_calloG G9_12, ↓exT_call G9_13, ↓exT_callo G9_13, ↓exT_calloG G9_13, ↓exT_call G9_17, ↓exT_callo G9_17, ↓exT_calloG G9_17, ↓exT_call G9_11, ↓exT_callo G9_11, ↓exT_calloG G9_11, ↓exT_call G9_20, ↓exT_callo G9_20, ↓exT_calloG G9_20, hyi, go_sem, Nat.reduceAdd, Nat.reduceSub, Nat.reduceMul, Nat.reduceEqDiff, Nat.reduceLeDiff, Nat.reduceLT, Nat.reduceBEq, Int.reduceLE, Int.reduceLT, Int.reduceToNat, Int.reduceNeg, Int.reduceAdd, Int.reduceSub, Int.reduceMul, ↓reduceIte]
      exact ⟨by omega, x + 1, by omega, by omega, by omega⟩

end Go.Proofs.Ytcnemnehjpaggaa
