/- The document's disk, second part; what is fixed. -/
import Derived.Test.YtcnemnehjpaggaaK4
set_option linter.all false
namespace Go.Proofs.Ytcnemnehjpaggaa
open Go Go.Ab Go.Proofs Go.Fs
theorem small_4 {ss : List Bs} {cs : List Wr} (h : smallD ⟨ss, cs⟩ = true) : ss.length < 4000000 ∧ cs.length < 4000000 := by
  obtain ⟨q1, q2, -⟩ := (small_iff _).1 h
  simp only at q1 q2
  omega
theorem str_snoc {l : List Bs} {t : Bs} : encs strE l ++ [[.str t]] = encs strE (l ++ [t]) := by rw [encs_append]; rfl
def rsyncD (d : Disk) : Disk := ⟨(List.range d.sectors.length).map (getS d), []⟩
theorem rsync_s {d : Disk} : (rsyncD d).sectors = (List.range d.sectors.length).map (getS d) := nr rfl
theorem rsync_c {d : Disk} : (rsyncD d).cache = [] := nr rfl
def rSyncG_enc : (List Bs) × (List Wr) × (Bool) × (Bool) → List V := fun ⟨ss, cs, f, g⟩ => [.agg [.s (.list 1 (encs strE ss) f), .s (.list 2 (encs wrE cs) g)]]
theorem rSyncG_inj : ∀ x y, rSyncG_enc x = rSyncG_enc y → x = y := by
  rintro ⟨ss, cs, f, g⟩ ⟨ss2, cs2, f2, g2⟩ h
  simp only [rSyncG_enc, List.cons.injEq, V.c.injEq, V.agg.injEq, C.s.injEq, S.list.injEq, S.str.injEq, S.int.injEq, S.bool.injEq, S.fn.injEq, S.cref.injEq, strE_inj, true_and, and_true, wrE_inj] at h
  simp_all
noncomputable def rSyncG : List V → Option (V) := specE rSyncG_enc (fun ⟨ss, cs, f, g⟩ => ss.length < 4000000 ∧ cs.length < 4000000) (fun ⟨ss, cs, f, g⟩ => .agg [.s (.list 1 (encs strE (rsyncD ⟨ss, cs⟩).sectors) false), .s (.list 2 (encs wrE (rsyncD ⟨ss, cs⟩).cache) false)])
theorem rSyncG_eq {ss : List Bs} {cs : List Wr} {f : Bool} {g : Bool} [Decidable (ss.length < 4000000 ∧ cs.length < 4000000)] : rSyncG [.agg [.s (.list 1 (encs strE ss) f), .s (.list 2 (encs wrE cs) g)]] = if ss.length < 4000000 ∧ cs.length < 4000000 then some (.agg [.s (.list 1 (encs strE (rsyncD ⟨ss, cs⟩).sectors) false), .s (.list 2 (encs wrE (rsyncD ⟨ss, cs⟩).cache) false)]) else none := specE_eq rSyncG_inj (ss, cs, f, g)
theorem rSyncG_call {ss : List Bs} {cs : List Wr} {f : Bool} {g : Bool} {gt : Bool} {K : V → Prop} : callE rSyncG [.agg [.s (.list 1 (encs strE ss) f), .s (.list 2 (encs wrE cs) g)]] gt K = ((gt = true → ss.length < 4000000 ∧ cs.length < 4000000) ∧ bindV (ifV gt (.agg [.s (.list 1 (encs strE (rsyncD ⟨ss, cs⟩).sectors) false), .s (.list 2 (encs wrE (rsyncD ⟨ss, cs⟩).cache) false)])) K) := by
  have := Classical.propDecidable (ss.length < 4000000 ∧ cs.length < 4000000)
  exact callE_of rSyncG_eq
theorem rSyncG_callo {ss : List Bs} {cs : List Wr} {f : Bool} {g : Bool} {m : Nat → Option Ab.Obj} {locs : List Nat} {K : V → (Nat → Option Ab.Obj) → Prop} : callO rSyncG (some [.agg [.s (.list 1 (encs strE ss) f), .s (.list 2 (encs wrE cs) g)]]) m locs K = ((ss.length < 4000000 ∧ cs.length < 4000000) ∧ K (.agg [.s (.list 1 (encs strE (rsyncD ⟨ss, cs⟩).sectors) false), .s (.list 2 (encs wrE (rsyncD ⟨ss, cs⟩).cache) false)]) (sealW m locs (.agg [.s (.list 1 (encs strE (rsyncD ⟨ss, cs⟩).sectors) false), .s (.list 2 (encs wrE (rsyncD ⟨ss, cs⟩).cache) false)]))) := by
  have := Classical.propDecidable (ss.length < 4000000 ∧ cs.length < 4000000)
  exact callO_of rSyncG_eq
attribute [go_sem] rSyncG_call rSyncG_callo

def sc_ref17_Sync : SC := .seq (.reg [⟨some 1, .box 2, [.t 0], none⟩,
⟨some 2, .alloc [.list 0 [] true, .list 0 [] true], [], none⟩]) (.seq (.reg [⟨some 3, .alloc [.list 0 [] true, .list 0 [] true], [], none⟩]) (.seq (.seq (.reg [⟨some 4, .mv, [.k (.c (.s (.int .i64 0)))], none⟩]) (.block 0 (.loop (.seq (.seq (.reg [⟨some 5, .mv, [.t 4], none⟩,
⟨some 6, .fadr 0, [.t 1], none⟩,
⟨some 7, .load 1 false, [.t 6], none⟩,
⟨some 8, .len false, [.t 7], none⟩,
⟨some 9, .bin .lss, [.t 5, .t 8], none⟩]) (.cond (.t 9) (.skip) (.exit 0))) (.seq (.block 1 (.regD [⟨some 12, .fadr 0, [.t 3], none⟩,
⟨some 13, .load 1 false, [.t 12], none⟩,
⟨some 14, .load 2 true, [.t 1], none⟩,
⟨some 15, .mv, [.t 4], none⟩,
⟨some 16, .call 23, [.t 14, .t 15], none⟩,
⟨some 17, .bslice 1 1 [.str []] [0], [.t 16], none⟩,
⟨some 18, .append false 1 16, [.t 13, .t 17], none⟩,
⟨some 19, .fadr 0, [.t 3], none⟩,
⟨none, .store 1 false, [.t 19, .t 18], none⟩] [(0, 4), (1, 4), (0, 5), (1, 5)])) (.reg [⟨some 10, .mv, [.t 4], none⟩,
⟨some 11, .bin .add, [.t 10, .k (.c (.s (.int .i64 1)))], none⟩,
⟨some 4, .mv, [.t 11], none⟩])))))) (.seq (.reg [⟨some 20, .load 2 true, [.t 3], none⟩,
⟨none, .store 2 true, [.t 2, .t 20], none⟩]) (.ret))))
noncomputable def G_ref17_Sync : FuncId → Ab.Spec := addS (noS) 23 (plain rReadG)
theorem G_ref17_Sync_ok : ∀ f, Contract Try.prog f (G_ref17_Sync f) := (addS_ok (noS_ok _) contract_ref17_Read)
theorem G21_23 : G_ref17_Sync 23 = plain rReadG := by simp [G_ref17_Sync, addS]
set_option maxHeartbeats 16000000 in
set_option maxRecDepth 1000000 in
set_option linter.unusedSimpArgs false in
set_option linter.unusedVariables false in
theorem contract_ref17_Sync : Contract Try.prog 21 (plain rSyncG) := by
  have hb : ∃ c, Try.f21.body = some c ∧ codeOk 21 c = true ∧ cCode Try.prog c = sc_ref17_Sync := ⟨_, rfl, by kernel_rfl, by kernel_rfl⟩
  obtain ⟨c, hb1, hb2, hb3⟩ := hb
  refine contract_of (n := 1) G_ref17_Sync_ok hB hD Try.func21 hb1 (by kernel_rfl) hb2 hb3 (rs := [.cell 2 2 true]) (by kernel_rfl) (by decide) ?_ ?_
  · intro args x h
    obtain ⟨y, hy, -⟩ := Option.map_eq_some_iff.1 h
    obtain ⟨⟨ss, cs, f, g⟩, rfl, -⟩ := specE_some hy
    rfl
  · intro args r hr
    obtain ⟨y, hy, rfl⟩ := Option.map_eq_some_iff.1 hr
    obtain ⟨⟨ss, cs, f, g⟩, rfl, hc, rfl⟩ := specE_some hy
    clear hr hy
    have hc : ss.length < 4000000 ∧ cs.length < 4000000 := hc
    change awp _ _ (postQ _ (.v (.agg [.s (.list 1 (encs strE (rsyncD ⟨ss, cs⟩).sectors) false), .s (.list 2 (encs wrE (rsyncD ⟨ss, cs⟩).cache) false)]))) _
    unfold rSyncG_enc sc_ref17_Sync
    simp +contextual (maxSteps := 4000000) only [↓exT_call G21_23, ↓exT_callo G21_23, ↓exT_calloG G21_23, go_sem, Nat.reduceAdd, Nat.reduceSub, Nat.reduceMul, Nat.reduceEqDiff, Nat.reduceLeDiff, Nat.reduceLT, Nat.reduceBEq, Int.reduceLE, Int.reduceLT, Int.reduceToNat, Int.reduceNeg, Int.reduceAdd, Int.reduceSub, Int.reduceMul, ↓reduceIte]
    refine awp_loopM (α := Nat) (fun i => [(1, .c (.ptr 1 0)), (2, .c (.ptr 2 0)), (3, .c (.ptr 3 0)), (4, .c (.s (.int .i64 i)))])
      (fun i => [(1, .box [.s (.list 1 (encs strE ss) f), .s (.list 2 (encs wrE cs) g)]), (2, .box [.s (.list 0 [] true), .s (.list 0 [] true)]), (3, .box [.own 100 i, .s (.list 0 [] true)]), (100, .row 1 (encs strE ((List.range i).map (getS ⟨ss, cs⟩))))]) (fun i => ss.length - i) 0 (fun i => i ≤ ss.length) (Nat.zero_le _) (Weak.trans (Weak.nilCell (k' := 0) (cells := [.s (.list 0 [] true), .s (.list 0 [] true)]) 3 0 100 1 rfl rfl rfl) (Weak.meets ?_)) ?_
    · simp +contextual (maxSteps := 4000000) only [↓exT_call G21_23, ↓exT_callo G21_23, ↓exT_calloG G21_23, List.set_cons_zero, go_sem, Nat.reduceAdd, Nat.reduceSub, Nat.reduceMul, Nat.reduceEqDiff, Nat.reduceLeDiff, Nat.reduceLT, Nat.reduceBEq, Int.reduceLE, Int.reduceLT, Int.reduceToNat, Int.reduceNeg, Int.reduceAdd, Int.reduceSub, Int.reduceMul, ↓reduceIte]
      simp [encs]
    intro x hx
    have hl : (encs strE ((List.range x).map (getS ⟨ss, cs⟩))).length = x := by simp [encs]
    by_cases hxl : x < ss.length
    · have hxi : (x : Int) < (ss.length : Int) := by omega
      have ht := range_snoc x (getS ⟨ss, cs⟩)
      simp +contextual (maxSteps := 4000000) only [↓exT_call G21_23, ↓exT_callo G21_23, ↓exT_calloG G21_23, hxi, hl, str_snoc, go_sem, Nat.reduceAdd, Nat.reduceSub, Nat.reduceMul, Nat.reduceEqDiff, Nat.reduceLeDiff, Nat.reduceLT, Nat.reduceBEq, Int.reduceLE, Int.reduceLT, Int.reduceToNat, Int.reduceNeg, Int.reduceAdd, Int.reduceSub, Int.reduceMul, ↓reduceIte]
      refine ⟨hc.2, by omega, by omega, x + 1, ?_⟩
      simp [ht]
      omega
    · have hxi : ¬ (x : Int) < (ss.length : Int) := by omega
      obtain rfl : x = ss.length := by omega
      simp +contextual (maxSteps := 4000000) only [↓exT_call G21_23, ↓exT_callo G21_23, ↓exT_calloG G21_23, hxi, rsync_s, rsync_c, go_sem, Nat.reduceAdd, Nat.reduceSub, Nat.reduceMul, Nat.reduceEqDiff, Nat.reduceLeDiff, Nat.reduceLT, Nat.reduceBEq, Int.reduceLE, Int.reduceLT, Int.reduceToNat, Int.reduceNeg, Int.reduceAdd, Int.reduceSub, Int.reduceMul, ↓reduceIte]
      simp [encs]

def rCrashG_enc : (List Bs) × (List Wr) × (Bool) × (Bool) × (List Int) × (Nat) × (Bool) → List V := fun ⟨ss, cs, f, g, keep, k, h⟩ => [.agg [.s (.list 1 (encs strE ss) f), .s (.list 2 (encs wrE cs) g)], .c (.s (.list k (encs numE keep) h))]
theorem rCrashG_inj : ∀ x y, rCrashG_enc x = rCrashG_enc y → x = y := by
  rintro ⟨ss, cs, f, g, keep, k, h⟩ ⟨ss2, cs2, f2, g2, keep2, k2, h2⟩ h
  simp only [rCrashG_enc, List.cons.injEq, V.c.injEq, V.agg.injEq, C.s.injEq, S.list.injEq, S.str.injEq, S.int.injEq, S.bool.injEq, S.fn.injEq, S.cref.injEq, strE_inj, true_and, and_true, wrE_inj, numE_inj] at h
  simp_all
noncomputable def rCrashG : List V → Option (V) := specE rCrashG_enc (fun ⟨ss, cs, f, g, keep, k, h⟩ => ((k = 1 ∨ keep = []) ∧ keep.length < 4000000) ∧ rightD ⟨ss, cs⟩ = true) (fun ⟨ss, cs, f, g, keep, k, h⟩ => .agg [.s (.list 1 (encs strE (crashD ⟨ss, cs⟩ keep).sectors) false), .s (.list 2 (encs wrE (crashD ⟨ss, cs⟩ keep).cache) false)])
theorem rCrashG_eq {ss : List Bs} {cs : List Wr} {f : Bool} {g : Bool} {keep : List Int} {k : Nat} {h : Bool} [Decidable (((k = 1 ∨ keep = []) ∧ keep.length < 4000000) ∧ rightD ⟨ss, cs⟩ = true)] : rCrashG [.agg [.s (.list 1 (encs strE ss) f), .s (.list 2 (encs wrE cs) g)], .c (.s (.list k (encs numE keep) h))] = if ((k = 1 ∨ keep = []) ∧ keep.length < 4000000) ∧ rightD ⟨ss, cs⟩ = true then some (.agg [.s (.list 1 (encs strE (crashD ⟨ss, cs⟩ keep).sectors) false), .s (.list 2 (encs wrE (crashD ⟨ss, cs⟩ keep).cache) false)]) else none := specE_eq rCrashG_inj (ss, cs, f, g, keep, k, h)
theorem rCrashG_call {ss : List Bs} {cs : List Wr} {f : Bool} {g : Bool} {keep : List Int} {k : Nat} {h : Bool} {gt : Bool} {K : V → Prop} : callE rCrashG [.agg [.s (.list 1 (encs strE ss) f), .s (.list 2 (encs wrE cs) g)], .c (.s (.list k (encs numE keep) h))] gt K = ((gt = true → ((k = 1 ∨ keep = []) ∧ keep.length < 4000000) ∧ rightD ⟨ss, cs⟩ = true) ∧ bindV (ifV gt (.agg [.s (.list 1 (encs strE (crashD ⟨ss, cs⟩ keep).sectors) false), .s (.list 2 (encs wrE (crashD ⟨ss, cs⟩ keep).cache) false)])) K) := by
  have := Classical.propDecidable (((k = 1 ∨ keep = []) ∧ keep.length < 4000000) ∧ rightD ⟨ss, cs⟩ = true)
  exact callE_of rCrashG_eq
theorem rCrashG_callo {ss : List Bs} {cs : List Wr} {f : Bool} {g : Bool} {keep : List Int} {k : Nat} {h : Bool} {m : Nat → Option Ab.Obj} {locs : List Nat} {K : V → (Nat → Option Ab.Obj) → Prop} : callO rCrashG (some [.agg [.s (.list 1 (encs strE ss) f), .s (.list 2 (encs wrE cs) g)], .c (.s (.list k (encs numE keep) h))]) m locs K = ((((k = 1 ∨ keep = []) ∧ keep.length < 4000000) ∧ rightD ⟨ss, cs⟩ = true) ∧ K (.agg [.s (.list 1 (encs strE (crashD ⟨ss, cs⟩ keep).sectors) false), .s (.list 2 (encs wrE (crashD ⟨ss, cs⟩ keep).cache) false)]) (sealW m locs (.agg [.s (.list 1 (encs strE (crashD ⟨ss, cs⟩ keep).sectors) false), .s (.list 2 (encs wrE (crashD ⟨ss, cs⟩ keep).cache) false)]))) := by
  have := Classical.propDecidable (((k = 1 ∨ keep = []) ∧ keep.length < 4000000) ∧ rightD ⟨ss, cs⟩ = true)
  exact callO_of rCrashG_eq
attribute [go_sem] rCrashG_call rCrashG_callo

def sc_ref17_Crash : SC := .seq (.reg [⟨some 2, .box 2, [.t 0], none⟩,
⟨some 4, .alloc [.list 0 [] true, .list 0 [] true], [], none⟩]) (.seq (.reg [⟨some 5, .alloc [.list 0 [] true, .list 0 [] true], [], none⟩]) (.seq (.reg [⟨some 7, .fadr 0, [.t 5], none⟩,
⟨some 8, .load 1 false, [.t 7], none⟩,
⟨some 9, .fadr 0, [.t 2], none⟩,
⟨some 10, .load 1 false, [.t 9], none⟩,
⟨some 11, .append false 1 16, [.t 8, .t 10], none⟩,
⟨some 12, .fadr 0, [.t 5], none⟩,
⟨none, .store 1 false, [.t 12, .t 11], none⟩]) (.seq (.seq (.reg [⟨some 6, .mv, [.k (.c (.s (.int .i64 0)))], none⟩]) (.block 0 (.loop (.seq (.seq (.reg [⟨some 13, .mv, [.t 6], none⟩,
⟨some 14, .fadr 1, [.t 2], none⟩,
⟨some 15, .load 1 false, [.t 14], none⟩,
⟨some 16, .len false, [.t 15], none⟩,
⟨some 17, .bin .lss, [.t 13, .t 16], none⟩]) (.cond (.t 17) (.skip) (.exit 0))) (.seq (.block 1 (.seq (.reg [⟨some 20, .mv, [.t 1], none⟩,
⟨some 21, .mv, [.t 6], none⟩,
⟨some 22, .call 40, [.t 20, .t 21], none⟩]) (.cond (.t 22) (.regD [⟨some 23, .fadr 0, [.t 5], none⟩,
⟨some 24, .load 1 false, [.t 23], none⟩,
⟨some 25, .fadr 1, [.t 2], none⟩,
⟨some 26, .load 1 false, [.t 25], none⟩,
⟨some 27, .mv, [.t 6], none⟩,
⟨some 28, .iadr 2, [.t 26, .t 27], none⟩,
⟨some 29, .fadr 0, [.t 28], none⟩,
⟨some 30, .load 1 false, [.t 29], none⟩,
⟨some 31, .fadr 1, [.t 2], none⟩,
⟨some 32, .load 1 false, [.t 31], none⟩,
⟨some 33, .mv, [.t 6], none⟩,
⟨some 34, .iadr 2, [.t 32, .t 33], none⟩,
⟨some 35, .fadr 1, [.t 34], none⟩,
⟨some 36, .load 1 false, [.t 35], none⟩,
⟨some 37, .iadr 1, [.t 24, .t 30], none⟩,
⟨none, .store 1 false, [.t 37, .t 36], none⟩] []) (.skip)))) (.reg [⟨some 18, .mv, [.t 6], none⟩,
⟨some 19, .bin .add, [.t 18, .k (.c (.s (.int .i64 1)))], none⟩,
⟨some 6, .mv, [.t 19], none⟩])))))) (.seq (.reg [⟨some 38, .load 2 true, [.t 5], none⟩,
⟨none, .store 2 true, [.t 4, .t 38], none⟩]) (.ret)))))
noncomputable def G_ref17_Crash : FuncId → Ab.Spec := addS (noS) 40 (plain inG)
theorem G_ref17_Crash_ok : ∀ f, Contract Try.prog f (G_ref17_Crash f) := (addS_ok (noS_ok _) contract_ref17_in)
theorem G22_40 : G_ref17_Crash 40 = plain inG := by simp [G_ref17_Crash, addS]
set_option maxHeartbeats 16000000 in
set_option maxRecDepth 1000000 in
set_option linter.unusedSimpArgs false in
set_option linter.unusedVariables false in
theorem contract_ref17_Crash : Contract Try.prog 22 (plain rCrashG) := by
  have hb : ∃ c, Try.f22.body = some c ∧ codeOk 39 c = true ∧ cCode Try.prog c = sc_ref17_Crash := ⟨_, rfl, by kernel_rfl, by kernel_rfl⟩
  obtain ⟨c, hb1, hb2, hb3⟩ := hb
  refine contract_of (n := 2) G_ref17_Crash_ok hB hD Try.func22 hb1 (by kernel_rfl) hb2 hb3 (rs := [.cell 4 2 true]) (by kernel_rfl) (by decide) ?_ ?_
  · intro args x h
    obtain ⟨y, hy, -⟩ := Option.map_eq_some_iff.1 h
    obtain ⟨⟨ss, cs, f, g, keep, k, h⟩, rfl, -⟩ := specE_some hy
    rfl
  · intro args r hr
    obtain ⟨y, hy, rfl⟩ := Option.map_eq_some_iff.1 hr
    obtain ⟨⟨ss, cs, f, g, keep, k, h⟩, rfl, hc, rfl⟩ := specE_some hy
    clear hr hy
    have hc : ((k = 1 ∨ keep = []) ∧ keep.length < 4000000) ∧ rightD ⟨ss, cs⟩ = true := hc
    change awp _ _ (postQ _ (.v (.agg [.s (.list 1 (encs strE (crashD ⟨ss, cs⟩ keep).sectors) false), .s (.list 2 (encs wrE (crashD ⟨ss, cs⟩ keep).cache) false)]))) _
    unfold rCrashG_enc sc_ref17_Crash
    obtain ⟨hk, hr⟩ := hc
    obtain ⟨q1, q2, q3, q4, q5⟩ := (right_iff _).1 hr
    simp only at q1 q2 q3 q4 q5
    have h1 : crashD ⟨ss, cs⟩ keep = ⟨applyW ss (keptW keep 0 cs), []⟩ := by unfold crashD; rw [hr]; rfl
    simp +contextual (maxSteps := 4000000) only [↓exT_call G22_40, ↓exT_callo G22_40, ↓exT_calloG G22_40, h1, go_sem, Nat.reduceAdd, Nat.reduceSub, Nat.reduceMul, Nat.reduceEqDiff, Nat.reduceLeDiff, Nat.reduceLT, Nat.reduceBEq, Int.reduceLE, Int.reduceLT, Int.reduceToNat, Int.reduceNeg, Int.reduceAdd, Int.reduceSub, Int.reduceMul, ↓reduceIte]
    refine ⟨by omega, ?_⟩
    refine awp_loopM (α := Nat) (fun i => [(1, .c (.s (.list k (encs numE keep) h))), (2, .c (.ptr 2 0)), (4, .c (.ptr 4 0)), (5, .c (.ptr 5 0)), (6, .c (.s (.int .i64 i)))])
      (fun i => [(2, .box [.s (.list 1 (encs strE ss) f), .s (.list 2 (encs wrE cs) g)]), (4, .box [.s (.list 0 [] true), .s (.list 0 [] true)]), (5, .box [.own 11 ss.length, .s (.list 0 [] true)]), (11, .row 1 (encs strE (applyW ss (keptW keep 0 (cs.take i)))))]) (fun i => cs.length - i) 0 (fun i => i ≤ cs.length) (Nat.zero_le _) (Weak.meets ?_) ?_
    · simp +contextual (maxSteps := 4000000) only [↓exT_call G22_40, ↓exT_callo G22_40, ↓exT_calloG G22_40, go_sem, Nat.reduceAdd, Nat.reduceSub, Nat.reduceMul, Nat.reduceEqDiff, Nat.reduceLeDiff, Nat.reduceLT, Nat.reduceBEq, Int.reduceLE, Int.reduceLT, Int.reduceToNat, Int.reduceNeg, Int.reduceAdd, Int.reduceSub, Int.reduceMul, ↓reduceIte]
      simp [keptW, applyW]
    intro x hx
    by_cases hxl : x < cs.length
    · have hxi : (x : Int) < (cs.length : Int) := by omega
      have hm : 0 ≤ (cs.getD x default).loc ∧ (cs.getD x default).loc < ss.length ∧ (cs.getD x default).data.length = 32 := (may_iff _ _).1 (q5 _ (mem_getD hxl))
      have hl := applyW_len (keptW keep 0 (cs.take x)) ss
      have ht : applyW ss (keptW keep 0 (cs.take (x + 1))) = if keep.contains (x : Int) = true then (applyW ss (keptW keep 0 (cs.take x))).set (cs.getD x default).loc.toNat (cs.getD x default).data else applyW ss (keptW keep 0 (cs.take x)) := by
        rw [kept_snoc hxl, applyW_append]
        split <;> rfl
      cases hkx : keep.contains (x : Int) with
      | true =>
        rw [if_pos hkx] at ht
        simp +contextual (maxSteps := 4000000) only [↓exT_call G22_40, ↓exT_callo G22_40, ↓exT_calloG G22_40, hxi, hl, hkx, go_sem, Nat.reduceAdd, Nat.reduceSub, Nat.reduceMul, Nat.reduceEqDiff, Nat.reduceLeDiff, Nat.reduceLT, Nat.reduceBEq, Int.reduceLE, Int.reduceLT, Int.reduceToNat, Int.reduceNeg, Int.reduceAdd, Int.reduceSub, Int.reduceMul, ↓reduceIte]
        refine ⟨hk, ⟨hm.1, hm.2.1⟩, by omega, by omega, x + 1, by omega, by omega, by omega, ?_⟩
        rw [ht]
      | false =>
        rw [if_neg (by rw [hkx]; simp)] at ht
        simp +contextual (maxSteps := 4000000) only [↓exT_call G22_40, ↓exT_callo G22_40, ↓exT_calloG G22_40, hxi, hl, hkx, go_sem, Nat.reduceAdd, Nat.reduceSub, Nat.reduceMul, Nat.reduceEqDiff, Nat.reduceLeDiff, Nat.reduceLT, Nat.reduceBEq, Int.reduceLE, Int.reduceLT, Int.reduceToNat, Int.reduceNeg, Int.reduceAdd, Int.reduceSub, Int.reduceMul, ↓reduceIte]
        refine ⟨hk, by omega, x + 1, by omega, by omega, by omega, ?_⟩
        rw [ht]
    · have hxi : ¬ (x : Int) < (cs.length : Int) := by omega
      obtain rfl : x = cs.length := by omega
      have hl := applyW_len (keptW keep 0 cs) ss
      rw [List.take_length]
      simp +contextual (maxSteps := 4000000) only [↓exT_call G22_40, ↓exT_callo G22_40, ↓exT_calloG G22_40, hxi, hl, go_sem, Nat.reduceAdd, Nat.reduceSub, Nat.reduceMul, Nat.reduceEqDiff, Nat.reduceLeDiff, Nat.reduceLT, Nat.reduceBEq, Int.reduceLE, Int.reduceLT, Int.reduceToNat, Int.reduceNeg, Int.reduceAdd, Int.reduceSub, Int.reduceMul, ↓reduceIte]

def sameRG_enc : (List Bs) × (List Wr) × (Bool) × (Bool) × (List Bs) × (List Wr) × (Bool) × (Bool) → List V := fun ⟨ss, cs, f, g, tt, ws, f1, g1⟩ => [.agg [.s (.list 1 (encs strE ss) f), .s (.list 2 (encs wrE cs) g)], .agg [.s (.list 1 (encs strE tt) f1), .s (.list 2 (encs wrE ws) g1)]]
theorem sameRG_inj : ∀ x y, sameRG_enc x = sameRG_enc y → x = y := by
  rintro ⟨ss, cs, f, g, tt, ws, f1, g1⟩ ⟨ss2, cs2, f2, g2, tt2, ws2, f12, g12⟩ h
  simp only [sameRG_enc, List.cons.injEq, V.c.injEq, V.agg.injEq, C.s.injEq, S.list.injEq, S.str.injEq, S.int.injEq, S.bool.injEq, S.fn.injEq, S.cref.injEq, strE_inj, true_and, and_true, wrE_inj] at h
  simp_all
noncomputable def sameRG : List V → Option (V) := specE sameRG_enc (fun ⟨ss, cs, f, g, tt, ws, f1, g1⟩ => ss.length < 4000000 ∧ cs.length < 4000000) (fun ⟨ss, cs, f, g, tt, ws, f1, g1⟩ => .c (.s (.bool (decide ((⟨ss, cs⟩ : Disk) = ⟨tt, ws⟩)))))
theorem sameRG_eq {ss : List Bs} {cs : List Wr} {f : Bool} {g : Bool} {tt : List Bs} {ws : List Wr} {f1 : Bool} {g1 : Bool} [Decidable (ss.length < 4000000 ∧ cs.length < 4000000)] : sameRG [.agg [.s (.list 1 (encs strE ss) f), .s (.list 2 (encs wrE cs) g)], .agg [.s (.list 1 (encs strE tt) f1), .s (.list 2 (encs wrE ws) g1)]] = if ss.length < 4000000 ∧ cs.length < 4000000 then some (.c (.s (.bool (decide ((⟨ss, cs⟩ : Disk) = ⟨tt, ws⟩))))) else none := specE_eq sameRG_inj (ss, cs, f, g, tt, ws, f1, g1)
theorem sameRG_call {ss : List Bs} {cs : List Wr} {f : Bool} {g : Bool} {tt : List Bs} {ws : List Wr} {f1 : Bool} {g1 : Bool} {gt : Bool} {K : V → Prop} : callE sameRG [.agg [.s (.list 1 (encs strE ss) f), .s (.list 2 (encs wrE cs) g)], .agg [.s (.list 1 (encs strE tt) f1), .s (.list 2 (encs wrE ws) g1)]] gt K = ((gt = true → ss.length < 4000000 ∧ cs.length < 4000000) ∧ bindV (ifV gt (.c (.s (.bool (decide ((⟨ss, cs⟩ : Disk) = ⟨tt, ws⟩)))))) K) := by
  have := Classical.propDecidable (ss.length < 4000000 ∧ cs.length < 4000000)
  exact callE_of sameRG_eq
theorem sameRG_callo {ss : List Bs} {cs : List Wr} {f : Bool} {g : Bool} {tt : List Bs} {ws : List Wr} {f1 : Bool} {g1 : Bool} {m : Nat → Option Ab.Obj} {locs : List Nat} {K : V → (Nat → Option Ab.Obj) → Prop} : callO sameRG (some [.agg [.s (.list 1 (encs strE ss) f), .s (.list 2 (encs wrE cs) g)], .agg [.s (.list 1 (encs strE tt) f1), .s (.list 2 (encs wrE ws) g1)]]) m locs K = ((ss.length < 4000000 ∧ cs.length < 4000000) ∧ K (.c (.s (.bool (decide ((⟨ss, cs⟩ : Disk) = ⟨tt, ws⟩))))) (sealW m locs (.c (.s (.bool (decide ((⟨ss, cs⟩ : Disk) = ⟨tt, ws⟩))))))) := by
  have := Classical.propDecidable (ss.length < 4000000 ∧ cs.length < 4000000)
  exact callO_of sameRG_eq
attribute [go_sem] sameRG_call sameRG_callo

def sc_ref17_Same : SC := .seq (.reg [⟨some 2, .box 2, [.t 0], none⟩,
⟨some 3, .box 2, [.t 1], none⟩,
⟨some 4, .mv, [.k (.c (.s (.bool false)))], none⟩]) (.seq (.seq (.reg [⟨some 7, .fadr 0, [.t 2], none⟩,
⟨some 8, .load 1 false, [.t 7], none⟩,
⟨some 9, .len false, [.t 8], none⟩,
⟨some 10, .fadr 0, [.t 3], none⟩,
⟨some 11, .load 1 false, [.t 10], none⟩,
⟨some 12, .len false, [.t 11], none⟩,
⟨some 13, .bin .neq, [.t 9, .t 12], none⟩,
⟨some 14, .mv, [.t 13], none⟩,
⟨some 15, .fadr 1, [.t 2], some (14, false)⟩,
⟨some 16, .load 1 false, [.t 15], some (14, false)⟩,
⟨some 17, .len false, [.t 16], some (14, false)⟩,
⟨some 18, .fadr 1, [.t 3], some (14, false)⟩,
⟨some 19, .load 1 false, [.t 18], some (14, false)⟩,
⟨some 20, .len false, [.t 19], some (14, false)⟩,
⟨some 21, .bin .neq, [.t 17, .t 20], some (14, false)⟩,
⟨some 22, .pick, [.t 14, .k (.c (.s (.bool true))), .t 21], none⟩]) (.cond (.t 22) (.seq (.reg [⟨some 4, .mv, [.k (.c (.s (.bool false)))], none⟩]) (.ret)) (.skip))) (.seq (.seq (.reg [⟨some 5, .mv, [.k (.c (.s (.int .i64 0)))], none⟩]) (.block 0 (.loop (.seq (.seq (.reg [⟨some 23, .mv, [.t 5], none⟩,
⟨some 24, .fadr 0, [.t 2], none⟩,
⟨some 25, .load 1 false, [.t 24], none⟩,
⟨some 26, .len false, [.t 25], none⟩,
⟨some 27, .bin .lss, [.t 23, .t 26], none⟩]) (.cond (.t 27) (.skip) (.exit 0))) (.seq (.block 1 (.seq (.regD [⟨some 30, .fadr 0, [.t 2], none⟩,
⟨some 31, .load 1 false, [.t 30], none⟩,
⟨some 32, .mv, [.t 5], none⟩,
⟨some 33, .iadr 1, [.t 31, .t 32], none⟩,
⟨some 34, .load 1 false, [.t 33], none⟩,
⟨some 35, .fadr 0, [.t 3], none⟩,
⟨some 36, .load 1 false, [.t 35], none⟩,
⟨some 37, .mv, [.t 5], none⟩,
⟨some 38, .iadr 1, [.t 36, .t 37], none⟩,
⟨some 39, .load 1 false, [.t 38], none⟩,
⟨some 40, .bin .neq, [.t 34, .t 39], none⟩] []) (.cond (.t 40) (.seq (.reg [⟨some 4, .mv, [.k (.c (.s (.bool false)))], none⟩]) (.ret)) (.skip)))) (.reg [⟨some 28, .mv, [.t 5], none⟩,
⟨some 29, .bin .add, [.t 28, .k (.c (.s (.int .i64 1)))], none⟩,
⟨some 5, .mv, [.t 29], none⟩])))))) (.seq (.seq (.reg [⟨some 6, .mv, [.k (.c (.s (.int .i64 0)))], none⟩]) (.block 2 (.loop (.seq (.seq (.reg [⟨some 41, .mv, [.t 6], none⟩,
⟨some 42, .fadr 1, [.t 2], none⟩,
⟨some 43, .load 1 false, [.t 42], none⟩,
⟨some 44, .len false, [.t 43], none⟩,
⟨some 45, .bin .lss, [.t 41, .t 44], none⟩]) (.cond (.t 45) (.skip) (.exit 2))) (.seq (.block 3 (.seq (.regD [⟨some 48, .fadr 1, [.t 2], none⟩,
⟨some 49, .load 1 false, [.t 48], none⟩,
⟨some 50, .mv, [.t 6], none⟩,
⟨some 51, .iadr 2, [.t 49, .t 50], none⟩,
⟨some 52, .load 2 true, [.t 51], none⟩,
⟨some 53, .fadr 1, [.t 3], none⟩,
⟨some 54, .load 1 false, [.t 53], none⟩,
⟨some 55, .mv, [.t 6], none⟩,
⟨some 56, .iadr 2, [.t 54, .t 55], none⟩,
⟨some 57, .load 2 true, [.t 56], none⟩,
⟨some 58, .eqA true [1, 2], [.t 52, .t 57], none⟩] []) (.cond (.t 58) (.seq (.reg [⟨some 4, .mv, [.k (.c (.s (.bool false)))], none⟩]) (.ret)) (.skip)))) (.reg [⟨some 46, .mv, [.t 6], none⟩,
⟨some 47, .bin .add, [.t 46, .k (.c (.s (.int .i64 1)))], none⟩,
⟨some 6, .mv, [.t 47], none⟩])))))) (.seq (.reg [⟨some 4, .mv, [.k (.c (.s (.bool true)))], none⟩]) (.ret)))))
noncomputable def G_ref17_Same : FuncId → Ab.Spec := noS
theorem G_ref17_Same_ok : ∀ f, Contract Try.prog f (G_ref17_Same f) := (noS_ok _)
set_option maxHeartbeats 16000000 in
set_option maxRecDepth 1000000 in
set_option linter.unusedSimpArgs false in
set_option linter.unusedVariables false in
theorem contract_ref17_Same : Contract Try.prog 35 (plain sameRG) := by
  have hb : ∃ c, Try.f35.body = some c ∧ codeOk 59 c = true ∧ cCode Try.prog c = sc_ref17_Same := ⟨_, rfl, by kernel_rfl, by kernel_rfl⟩
  obtain ⟨c, hb1, hb2, hb3⟩ := hb
  refine contract_of (n := 2) G_ref17_Same_ok hB hD Try.func35 hb1 (by kernel_rfl) hb2 hb3 (rs := [.tmp 4]) (by kernel_rfl) (by decide) ?_ ?_
  · intro args x h
    obtain ⟨y, hy, -⟩ := Option.map_eq_some_iff.1 h
    obtain ⟨⟨ss, cs, f, g, tt, ws, f1, g1⟩, rfl, -⟩ := specE_some hy
    rfl
  · intro args r hr
    obtain ⟨y, hy, rfl⟩ := Option.map_eq_some_iff.1 hr
    obtain ⟨⟨ss, cs, f, g, tt, ws, f1, g1⟩, rfl, hc, rfl⟩ := specE_some hy
    clear hr hy
    have hc : ss.length < 4000000 ∧ cs.length < 4000000 := hc
    change awp _ _ (postQ _ (.v (.c (.s (.bool (decide ((⟨ss, cs⟩ : Disk) = ⟨tt, ws⟩))))))) _
    unfold sameRG_enc sc_ref17_Same
    by_cases h1 : ss.length = tt.length ∧ cs.length = ws.length
    case neg =>
      have e : (!decide ((ss.length : Int) = (tt.length : Int)) || !decide ((cs.length : Int) = (ws.length : Int))) = true := by simp; omega
      have hn : ¬ (⟨ss, cs⟩ : Disk) = ⟨tt, ws⟩ := fun h => by simp only [Disk.mk.injEq] at h; exact h1 ⟨by rw [h.1], by rw [h.2]⟩
      simp +contextual (maxSteps := 4000000) only [e, hn, go_sem, Nat.reduceAdd, Nat.reduceSub, Nat.reduceMul, Nat.reduceEqDiff, Nat.reduceLeDiff, Nat.reduceLT, Nat.reduceBEq, Int.reduceLE, Int.reduceLT, Int.reduceToNat, Int.reduceNeg, Int.reduceAdd, Int.reduceSub, Int.reduceMul, ↓reduceIte]
    obtain ⟨h1, h2⟩ := h1
    have e : (!decide ((ss.length : Int) = (tt.length : Int)) || !decide ((cs.length : Int) = (ws.length : Int))) = false := by simp [h1, h2]
    simp +contextual (maxSteps := 4000000) only [e, go_sem, Nat.reduceAdd, Nat.reduceSub, Nat.reduceMul, Nat.reduceEqDiff, Nat.reduceLeDiff, Nat.reduceLT, Nat.reduceBEq, Int.reduceLE, Int.reduceLT, Int.reduceToNat, Int.reduceNeg, Int.reduceAdd, Int.reduceSub, Int.reduceMul, ↓reduceIte]
    refine awp_loopM (α := Nat) (fun i => [(2, .c (.ptr 2 0)), (3, .c (.ptr 3 0)), (5, .c (.s (.int .i64 i)))]) (fun _ => [(2, .box [.s (.list 1 (encs strE ss) f), .s (.list 2 (encs wrE cs) g)]), (3, .box [.s (.list 1 (encs strE tt) f1), .s (.list 2 (encs wrE ws) g1)])]) (fun i => ss.length - i) 0 (fun i => i ≤ ss.length ∧ ss.take i = tt.take i) ⟨Nat.zero_le _, by simp⟩ (Weak.meets ?_) ?_
    · simp +contextual (maxSteps := 4000000) only [go_sem, Nat.reduceAdd, Nat.reduceSub, Nat.reduceMul, Nat.reduceEqDiff, Nat.reduceLeDiff, Nat.reduceLT, Nat.reduceBEq, Int.reduceLE, Int.reduceLT, Int.reduceToNat, Int.reduceNeg, Int.reduceAdd, Int.reduceSub, Int.reduceMul, ↓reduceIte]
      simp
    rintro x ⟨hx, hw⟩
    by_cases hxl : x < ss.length
    · have hxi : (x : Int) < (ss.length : Int) := by omega
      have hxi' : (x : Int) < (tt.length : Int) := by omega
      by_cases h6 : ss.getD x default = tt.getD x default
      · have ht := take_eq_snoc hxl h1 hw h6
        simp +contextual (maxSteps := 4000000) only [hxi, hxi', h6, go_sem, Nat.reduceAdd, Nat.reduceSub, Nat.reduceMul, Nat.reduceEqDiff, Nat.reduceLeDiff, Nat.reduceLT, Nat.reduceBEq, Int.reduceLE, Int.reduceLT, Int.reduceToNat, Int.reduceNeg, Int.reduceAdd, Int.reduceSub, Int.reduceMul, ↓reduceIte]
        exact ⟨by omega, x + 1, ⟨by omega, ht⟩, by omega, by omega⟩
      · have hn : ¬ (⟨ss, cs⟩ : Disk) = ⟨tt, ws⟩ := fun h => by simp only [Disk.mk.injEq] at h; exact h6 (by rw [h.1])
        simp +contextual (maxSteps := 4000000) only [hxi, hxi', h6, hn, go_sem, Nat.reduceAdd, Nat.reduceSub, Nat.reduceMul, Nat.reduceEqDiff, Nat.reduceLeDiff, Nat.reduceLT, Nat.reduceBEq, Int.reduceLE, Int.reduceLT, Int.reduceToNat, Int.reduceNeg, Int.reduceAdd, Int.reduceSub, Int.reduceMul, ↓reduceIte]
    have hxi : ¬ (x : Int) < (ss.length : Int) := by omega
    obtain rfl : x = ss.length := by omega
    rw [List.take_length, h1, List.take_length] at hw
    subst hw
    simp +contextual (maxSteps := 4000000) only [hxi, go_sem, Nat.reduceAdd, Nat.reduceSub, Nat.reduceMul, Nat.reduceEqDiff, Nat.reduceLeDiff, Nat.reduceLT, Nat.reduceBEq, Int.reduceLE, Int.reduceLT, Int.reduceToNat, Int.reduceNeg, Int.reduceAdd, Int.reduceSub, Int.reduceMul, ↓reduceIte]
    refine awp_loopM (α := Nat) (fun i => [(2, .c (.ptr 2 0)), (3, .c (.ptr 3 0)), (6, .c (.s (.int .i64 i)))]) (fun _ => [(2, .box [.s (.list 1 (encs strE ss) f), .s (.list 2 (encs wrE cs) g)]), (3, .box [.s (.list 1 (encs strE ss) f1), .s (.list 2 (encs wrE ws) g1)])]) (fun i => cs.length - i) 0 (fun i => i ≤ cs.length ∧ cs.take i = ws.take i) ⟨Nat.zero_le _, by simp⟩ (Weak.meets ?_) ?_
    · simp +contextual (maxSteps := 4000000) only [go_sem, Nat.reduceAdd, Nat.reduceSub, Nat.reduceMul, Nat.reduceEqDiff, Nat.reduceLeDiff, Nat.reduceLT, Nat.reduceBEq, Int.reduceLE, Int.reduceLT, Int.reduceToNat, Int.reduceNeg, Int.reduceAdd, Int.reduceSub, Int.reduceMul, ↓reduceIte]
      simp
    rintro y ⟨hy, hv⟩
    by_cases hyl : y < cs.length
    · have hyi : (y : Int) < (cs.length : Int) := by omega
      have hyi' : (y : Int) < (ws.length : Int) := by omega
      by_cases h6 : cs.getD y default = ws.getD y default
      · have ht := take_eq_snoc hyl h2 hv h6
        simp +contextual (maxSteps := 4000000) only [hyi, hyi', h6, go_sem, Nat.reduceAdd, Nat.reduceSub, Nat.reduceMul, Nat.reduceEqDiff, Nat.reduceLeDiff, Nat.reduceLT, Nat.reduceBEq, Int.reduceLE, Int.reduceLT, Int.reduceToNat, Int.reduceNeg, Int.reduceAdd, Int.reduceSub, Int.reduceMul, ↓reduceIte]
        exact ⟨by omega, y + 1, ⟨by omega, ht⟩, by omega, by omega⟩
      · have hn : ¬ (⟨ss, cs⟩ : Disk) = ⟨ss, ws⟩ := fun h => by simp only [Disk.mk.injEq] at h; exact h6 (by rw [h.2])
        have e6 : (decide ((cs.getD y default).loc = (ws.getD y default).loc) && decide ((cs.getD y default).data = (ws.getD y default).data)) = false := by
          rw [Bool.eq_false_iff]; intro h
          simp only [Bool.and_eq_true, decide_eq_true_eq] at h
          apply h6
          cases h7 : cs.getD y default; cases h8 : ws.getD y default
          rw [h7, h8] at h; simp only at h; rw [h.1, h.2]
        simp +contextual (maxSteps := 4000000) only [hyi, hyi', e6, hn, go_sem, Nat.reduceAdd, Nat.reduceSub, Nat.reduceMul, Nat.reduceEqDiff, Nat.reduceLeDiff, Nat.reduceLT, Nat.reduceBEq, Int.reduceLE, Int.reduceLT, Int.reduceToNat, Int.reduceNeg, Int.reduceAdd, Int.reduceSub, Int.reduceMul, ↓reduceIte]
    have hyi : ¬ (y : Int) < (cs.length : Int) := by omega
    obtain rfl : y = cs.length := by omega
    rw [List.take_length, h2, List.take_length] at hv
    subst hv
    simp +contextual (maxSteps := 4000000) only [hyi, go_sem, Nat.reduceAdd, Nat.reduceSub, Nat.reduceMul, Nat.reduceEqDiff, Nat.reduceLeDiff, Nat.reduceLT, Nat.reduceBEq, Int.reduceLE, Int.reduceLT, Int.reduceToNat, Int.reduceNeg, Int.reduceAdd, Int.reduceSub, Int.reduceMul, ↓reduceIte]

def sameG_enc : (List Bs) × (List Wr) × (Bool) × (Bool) × (List Bs) × (List Wr) × (Bool) × (Bool) → List V := fun ⟨ss, cs, f, g, tt, ws, f1, g1⟩ => [.agg [.s (.list 1 (encs strE ss) f), .s (.list 2 (encs wrE cs) g)], .agg [.s (.list 1 (encs strE tt) f1), .s (.list 2 (encs wrE ws) g1)]]
theorem sameG_inj : ∀ x y, sameG_enc x = sameG_enc y → x = y := by
  rintro ⟨ss, cs, f, g, tt, ws, f1, g1⟩ ⟨ss2, cs2, f2, g2, tt2, ws2, f12, g12⟩ h
  simp only [sameG_enc, List.cons.injEq, V.c.injEq, V.agg.injEq, C.s.injEq, S.list.injEq, S.str.injEq, S.int.injEq, S.bool.injEq, S.fn.injEq, S.cref.injEq, strE_inj, true_and, and_true, wrE_inj] at h
  simp_all
noncomputable def sameG : List V → Option (V) := specE sameG_enc (fun ⟨ss, cs, f, g, tt, ws, f1, g1⟩ => ss.length < 4000000 ∧ cs.length < 4000000) (fun ⟨ss, cs, f, g, tt, ws, f1, g1⟩ => .c (.s (.bool (decide ((⟨ss, cs⟩ : Disk) = ⟨tt, ws⟩)))))
theorem sameG_eq {ss : List Bs} {cs : List Wr} {f : Bool} {g : Bool} {tt : List Bs} {ws : List Wr} {f1 : Bool} {g1 : Bool} [Decidable (ss.length < 4000000 ∧ cs.length < 4000000)] : sameG [.agg [.s (.list 1 (encs strE ss) f), .s (.list 2 (encs wrE cs) g)], .agg [.s (.list 1 (encs strE tt) f1), .s (.list 2 (encs wrE ws) g1)]] = if ss.length < 4000000 ∧ cs.length < 4000000 then some (.c (.s (.bool (decide ((⟨ss, cs⟩ : Disk) = ⟨tt, ws⟩))))) else none := specE_eq sameG_inj (ss, cs, f, g, tt, ws, f1, g1)
theorem sameG_call {ss : List Bs} {cs : List Wr} {f : Bool} {g : Bool} {tt : List Bs} {ws : List Wr} {f1 : Bool} {g1 : Bool} {gt : Bool} {K : V → Prop} : callE sameG [.agg [.s (.list 1 (encs strE ss) f), .s (.list 2 (encs wrE cs) g)], .agg [.s (.list 1 (encs strE tt) f1), .s (.list 2 (encs wrE ws) g1)]] gt K = ((gt = true → ss.length < 4000000 ∧ cs.length < 4000000) ∧ bindV (ifV gt (.c (.s (.bool (decide ((⟨ss, cs⟩ : Disk) = ⟨tt, ws⟩)))))) K) := by
  have := Classical.propDecidable (ss.length < 4000000 ∧ cs.length < 4000000)
  exact callE_of sameG_eq
theorem sameG_callo {ss : List Bs} {cs : List Wr} {f : Bool} {g : Bool} {tt : List Bs} {ws : List Wr} {f1 : Bool} {g1 : Bool} {m : Nat → Option Ab.Obj} {locs : List Nat} {K : V → (Nat → Option Ab.Obj) → Prop} : callO sameG (some [.agg [.s (.list 1 (encs strE ss) f), .s (.list 2 (encs wrE cs) g)], .agg [.s (.list 1 (encs strE tt) f1), .s (.list 2 (encs wrE ws) g1)]]) m locs K = ((ss.length < 4000000 ∧ cs.length < 4000000) ∧ K (.c (.s (.bool (decide ((⟨ss, cs⟩ : Disk) = ⟨tt, ws⟩))))) (sealW m locs (.c (.s (.bool (decide ((⟨ss, cs⟩ : Disk) = ⟨tt, ws⟩))))))) := by
  have := Classical.propDecidable (ss.length < 4000000 ∧ cs.length < 4000000)
  exact callO_of sameG_eq
attribute [go_sem] sameG_call sameG_callo

def sc_law17_same : SC := .seq (.reg [⟨some 2, .box 2, [.t 0], none⟩,
⟨some 3, .box 2, [.t 1], none⟩,
⟨some 4, .mv, [.k (.c (.s (.bool false)))], none⟩]) (.seq (.regD [⟨some 5, .load 2 true, [.t 2], none⟩,
⟨some 6, .call 12, [.t 5], none⟩,
⟨some 7, .load 2 true, [.t 3], none⟩,
⟨some 8, .call 35, [.t 6, .t 7], none⟩,
⟨some 4, .mv, [.t 8], none⟩] [(1, 2)]) (.ret))
noncomputable def G_law17_same : FuncId → Ab.Spec := addS (addS (noS) 12 (plain refG)) 35 (plain sameRG)
theorem G_law17_same_ok : ∀ f, Contract Try.prog f (G_law17_same f) := (addS_ok (addS_ok (noS_ok _) contract_law17_Ref) contract_ref17_Same)
theorem G18_12 : G_law17_same 12 = plain refG := by simp [G_law17_same, addS]
theorem G18_35 : G_law17_same 35 = plain sameRG := by simp [G_law17_same, addS]
set_option maxHeartbeats 16000000 in
set_option maxRecDepth 1000000 in
set_option linter.unusedSimpArgs false in
set_option linter.unusedVariables false in
theorem contract_law17_same : Contract Try.prog 18 (plain sameG) := by
  have hb : ∃ c, Try.f18.body = some c ∧ codeOk 9 c = true ∧ cCode Try.prog c = sc_law17_same := ⟨_, rfl, by kernel_rfl, by kernel_rfl⟩
  obtain ⟨c, hb1, hb2, hb3⟩ := hb
  refine contract_of (n := 2) G_law17_same_ok hB hD Try.func18 hb1 (by kernel_rfl) hb2 hb3 (rs := [.tmp 4]) (by kernel_rfl) (by decide) ?_ ?_
  · intro args x h
    obtain ⟨y, hy, -⟩ := Option.map_eq_some_iff.1 h
    obtain ⟨⟨ss, cs, f, g, tt, ws, f1, g1⟩, rfl, -⟩ := specE_some hy
    rfl
  · intro args r hr
    obtain ⟨y, hy, rfl⟩ := Option.map_eq_some_iff.1 hr
    obtain ⟨⟨ss, cs, f, g, tt, ws, f1, g1⟩, rfl, hc, rfl⟩ := specE_some hy
    clear hr hy
    have hc : ss.length < 4000000 ∧ cs.length < 4000000 := hc
    change awp _ _ (postQ _ (.v (.c (.s (.bool (decide ((⟨ss, cs⟩ : Disk) = ⟨tt, ws⟩))))))) _
    unfold sameG_enc sc_law17_same
    simp +contextual (maxSteps := 4000000) only [↓exT_call G18_12, ↓exT_callo G18_12, ↓exT_calloG G18_12, ↓exT_call G18_35, ↓exT_callo G18_35, ↓exT_calloG G18_35, go_sem, Nat.reduceAdd, Nat.reduceSub, Nat.reduceMul, Nat.reduceEqDiff, Nat.reduceLeDiff, Nat.reduceLT, Nat.reduceBEq, Int.reduceLE, Int.reduceLT, Int.reduceToNat, Int.reduceNeg, Int.reduceAdd, Int.reduceSub, Int.reduceMul, ↓reduceIte]
    exact ⟨(fit_of hc.2).mpr trivial, hc⟩

def rRunG_enc : (List Bs) × (List Wr) × (Bool) × (Bool) × (List DOp) × (Bool) × (Int) → List V := fun ⟨ss, cs, f, g, l, h, n⟩ => [.agg [.s (.list 1 (encs strE ss) f), .s (.list 2 (encs wrE cs) g)], .c (.s (.list 3 (encs opE l) h)), .c (.s (.int .i64 n))]
theorem rRunG_inj : ∀ x y, rRunG_enc x = rRunG_enc y → x = y := by
  rintro ⟨ss, cs, f, g, l, h, n⟩ ⟨ss2, cs2, f2, g2, l2, h2, n2⟩ h
  simp only [rRunG_enc, List.cons.injEq, V.c.injEq, V.agg.injEq, C.s.injEq, S.list.injEq, S.str.injEq, S.int.injEq, S.bool.injEq, S.fn.injEq, S.cref.injEq, strE_inj, true_and, and_true, wrE_inj, opE_inj] at h
  simp_all
noncomputable def rRunG : List V → Option (V) := specE rRunG_enc (fun ⟨ss, cs, f, g, l, h, n⟩ => ss.length < 4000000 ∧ cs.length < 4000000 ∧ l.length < 4000000) (fun ⟨ss, cs, f, g, l, h, n⟩ => .agg [.s (.list 1 (encs strE (runN ⟨ss, cs⟩ l n).sectors) false), .s (.list 2 (encs wrE (runN ⟨ss, cs⟩ l n).cache) false)])
theorem rRunG_eq {ss : List Bs} {cs : List Wr} {f : Bool} {g : Bool} {l : List DOp} {h : Bool} {n : Int} [Decidable (ss.length < 4000000 ∧ cs.length < 4000000 ∧ l.length < 4000000)] : rRunG [.agg [.s (.list 1 (encs strE ss) f), .s (.list 2 (encs wrE cs) g)], .c (.s (.list 3 (encs opE l) h)), .c (.s (.int .i64 n))] = if ss.length < 4000000 ∧ cs.length < 4000000 ∧ l.length < 4000000 then some (.agg [.s (.list 1 (encs strE (runN ⟨ss, cs⟩ l n).sectors) false), .s (.list 2 (encs wrE (runN ⟨ss, cs⟩ l n).cache) false)]) else none := specE_eq rRunG_inj (ss, cs, f, g, l, h, n)
theorem rRunG_call {ss : List Bs} {cs : List Wr} {f : Bool} {g : Bool} {l : List DOp} {h : Bool} {n : Int} {gt : Bool} {K : V → Prop} : callE rRunG [.agg [.s (.list 1 (encs strE ss) f), .s (.list 2 (encs wrE cs) g)], .c (.s (.list 3 (encs opE l) h)), .c (.s (.int .i64 n))] gt K = ((gt = true → ss.length < 4000000 ∧ cs.length < 4000000 ∧ l.length < 4000000) ∧ bindV (ifV gt (.agg [.s (.list 1 (encs strE (runN ⟨ss, cs⟩ l n).sectors) false), .s (.list 2 (encs wrE (runN ⟨ss, cs⟩ l n).cache) false)])) K) := by
  have := Classical.propDecidable (ss.length < 4000000 ∧ cs.length < 4000000 ∧ l.length < 4000000)
  exact callE_of rRunG_eq
theorem rRunG_callo {ss : List Bs} {cs : List Wr} {f : Bool} {g : Bool} {l : List DOp} {h : Bool} {n : Int} {m : Nat → Option Ab.Obj} {locs : List Nat} {K : V → (Nat → Option Ab.Obj) → Prop} : callO rRunG (some [.agg [.s (.list 1 (encs strE ss) f), .s (.list 2 (encs wrE cs) g)], .c (.s (.list 3 (encs opE l) h)), .c (.s (.int .i64 n))]) m locs K = ((ss.length < 4000000 ∧ cs.length < 4000000 ∧ l.length < 4000000) ∧ K (.agg [.s (.list 1 (encs strE (runN ⟨ss, cs⟩ l n).sectors) false), .s (.list 2 (encs wrE (runN ⟨ss, cs⟩ l n).cache) false)]) (sealW m locs (.agg [.s (.list 1 (encs strE (runN ⟨ss, cs⟩ l n).sectors) false), .s (.list 2 (encs wrE (runN ⟨ss, cs⟩ l n).cache) false)]))) := by
  have := Classical.propDecidable (ss.length < 4000000 ∧ cs.length < 4000000 ∧ l.length < 4000000)
  exact callO_of rRunG_eq
attribute [go_sem] rRunG_call rRunG_callo

def sc_ref17_Run : SC := .seq (.reg [⟨some 3, .box 2, [.t 0], none⟩,
⟨some 6, .alloc [.list 0 [] true, .list 0 [] true], [], none⟩]) (.seq (.seq (.reg [⟨some 10, .load 2 true, [.t 3], none⟩,
⟨some 11, .call 14, [.t 10], none⟩,
⟨some 12, .not, [.t 11], none⟩]) (.cond (.t 12) (.seq (.reg [⟨some 13, .load 2 true, [.t 3], none⟩,
⟨none, .store 2 true, [.t 6, .t 13], none⟩]) (.ret)) (.skip))) (.seq (.seq (.reg [⟨some 7, .mv, [.k (.c (.s (.int .i64 0)))], none⟩]) (.block 0 (.loop (.seq (.seq (.reg [⟨some 14, .mv, [.t 7], none⟩,
⟨some 15, .mv, [.t 1], none⟩,
⟨some 16, .len false, [.t 15], none⟩,
⟨some 17, .bin .lss, [.t 14, .t 16], none⟩,
⟨some 18, .mv, [.t 17], none⟩,
⟨some 19, .mv, [.t 7], some (18, true)⟩,
⟨some 20, .mv, [.t 2], some (18, true)⟩,
⟨some 21, .bin .lss, [.t 19, .t 20], some (18, true)⟩,
⟨some 22, .pick, [.t 18, .t 21, .k (.c (.s (.bool false)))], none⟩]) (.cond (.t 22) (.skip) (.exit 0))) (.seq (.block 1 (.seq (.reg [⟨some 25, .mv, [.t 1], none⟩,
⟨some 26, .mv, [.t 7], none⟩,
⟨some 27, .iadr 3, [.t 25, .t 26], none⟩,
⟨some 28, .fadr 1, [.t 27], none⟩,
⟨some 29, .load 2 true, [.t 28], none⟩,
⟨some 8, .alloc [.int .i64 0, .str []], [], none⟩,
⟨none, .store 2 true, [.t 8, .t 29], none⟩]) (.seq (.reg [⟨some 30, .mv, [.t 1], none⟩,
⟨some 31, .mv, [.t 7], none⟩,
⟨some 32, .iadr 3, [.t 30, .t 31], none⟩,
⟨some 33, .fadr 0, [.t 32], none⟩,
⟨some 34, .load 1 false, [.t 33], none⟩]) (.cond (.t 34) (.reg [⟨some 35, .load 2 true, [.t 3], none⟩,
⟨some 36, .call 21, [.t 35], none⟩,
⟨none, .store 2 true, [.t 3, .t 36], none⟩]) (.seq (.reg [⟨some 37, .fadr 0, [.t 8], none⟩,
⟨some 38, .load 1 false, [.t 37], none⟩,
⟨some 39, .bin .geq, [.t 38, .k (.c (.s (.int .i64 0)))], none⟩,
⟨some 40, .mv, [.t 39], none⟩,
⟨some 41, .fadr 0, [.t 8], some (40, true)⟩,
⟨some 42, .load 1 false, [.t 41], some (40, true)⟩,
⟨some 43, .fadr 0, [.t 3], some (40, true)⟩,
⟨some 44, .load 1 false, [.t 43], some (40, true)⟩,
⟨some 45, .len false, [.t 44], some (40, true)⟩,
⟨some 46, .bin .lss, [.t 42, .t 45], some (40, true)⟩,
⟨some 47, .pick, [.t 40, .t 46, .k (.c (.s (.bool false)))], none⟩,
⟨some 48, .mv, [.t 47], none⟩,
⟨some 49, .fadr 1, [.t 8], some (48, true)⟩,
⟨some 50, .load 1 false, [.t 49], some (48, true)⟩,
⟨some 51, .len true, [.t 50], some (48, true)⟩,
⟨some 52, .bin .eql, [.t 51, .k (.c (.s (.int .i64 32)))], some (48, true)⟩,
⟨some 53, .pick, [.t 48, .t 52, .k (.c (.s (.bool false)))], none⟩,
⟨some 54, .mv, [.t 53], none⟩,
⟨some 55, .fadr 1, [.t 3], some (54, true)⟩,
⟨some 56, .load 1 false, [.t 55], some (54, true)⟩,
⟨some 57, .len false, [.t 56], some (54, true)⟩,
⟨some 58, .bin .lss, [.t 57, .k (.c (.s (.int .i64 700)))], some (54, true)⟩,
⟨some 59, .pick, [.t 54, .t 58, .k (.c (.s (.bool false)))], none⟩]) (.cond (.t 59) (.seq (.reg [⟨some 9, .mv, [.k (.c (.s (.list 0 [] true)))], none⟩]) (.seq (.reg [⟨some 60, .mv, [.t 9], none⟩,
⟨some 61, .fadr 1, [.t 3], none⟩,
⟨some 62, .load 1 false, [.t 61], none⟩,
⟨some 63, .append false 2 24, [.t 60, .t 62], none⟩,
⟨some 9, .mv, [.t 63], none⟩]) (.regD [⟨some 64, .fadr 0, [.t 3], none⟩,
⟨some 65, .load 1 false, [.t 64], none⟩,
⟨some 66, .mv, [.t 9], none⟩,
⟨some 67, .load 2 true, [.t 8], none⟩,
⟨some 68, .bslice 2 1 [.int .i64 0, .str []] [0], [.t 67], none⟩,
⟨some 69, .append false 2 24, [.t 66, .t 68], none⟩,
⟨some 70, .build [.list 0 [] true, .list 0 [] true] [(0, 1), (1, 1)], [.t 65, .t 69], none⟩,
⟨none, .store 2 true, [.t 3, .t 70], none⟩] [(0, 4), (1, 4), (0, 5), (1, 5)]))) (.skip))))))) (.reg [⟨some 23, .mv, [.t 7], none⟩,
⟨some 24, .bin .add, [.t 23, .k (.c (.s (.int .i64 1)))], none⟩,
⟨some 7, .mv, [.t 24], none⟩])))))) (.seq (.reg [⟨some 71, .load 2 true, [.t 3], none⟩,
⟨none, .store 2 true, [.t 6, .t 71], none⟩]) (.ret))))
noncomputable def G_ref17_Run : FuncId → Ab.Spec := addS (addS (noS) 14 (plain rRightG)) 21 (plain rSyncG)
theorem G_ref17_Run_ok : ∀ f, Contract Try.prog f (G_ref17_Run f) := (addS_ok (addS_ok (noS_ok _) contract_ref17_Right) contract_ref17_Sync)
theorem G25_14 : G_ref17_Run 14 = plain rRightG := by simp [G_ref17_Run, addS]
theorem G25_21 : G_ref17_Run 21 = plain rSyncG := by simp [G_ref17_Run, addS]
set_option maxHeartbeats 16000000 in
set_option maxRecDepth 1000000 in
set_option linter.unusedSimpArgs false in
set_option linter.unusedVariables false in
theorem contract_ref17_Run : Contract Try.prog 25 (plain rRunG) := by
  have hb : ∃ c, Try.f25.body = some c ∧ codeOk 72 c = true ∧ cCode Try.prog c = sc_ref17_Run := ⟨_, rfl, by kernel_rfl, by kernel_rfl⟩
  obtain ⟨c, hb1, hb2, hb3⟩ := hb
  refine contract_of (n := 3) G_ref17_Run_ok hB hD Try.func25 hb1 (by kernel_rfl) hb2 hb3 (rs := [.cell 6 2 true]) (by kernel_rfl) (by decide) ?_ ?_
  · intro args x h
    obtain ⟨y, hy, -⟩ := Option.map_eq_some_iff.1 h
    obtain ⟨⟨ss, cs, f, g, l, h, n⟩, rfl, -⟩ := specE_some hy
    rfl
  · intro args r hr
    obtain ⟨y, hy, rfl⟩ := Option.map_eq_some_iff.1 hr
    obtain ⟨⟨ss, cs, f, g, l, h, n⟩, rfl, hc, rfl⟩ := specE_some hy
    clear hr hy
    have hc : ss.length < 4000000 ∧ cs.length < 4000000 ∧ l.length < 4000000 := hc
    change awp _ _ (postQ _ (.v (.agg [.s (.list 1 (encs strE (runN ⟨ss, cs⟩ l n).sectors) false), .s (.list 2 (encs wrE (runN ⟨ss, cs⟩ l n).cache) false)]))) _
    unfold rRunG_enc sc_ref17_Run
    have hq : runN ⟨ss, cs⟩ l n = runD ⟨ss, cs⟩ (l.take n.toNat) := rfl
    rw [hq]
    cases hr : rightD ⟨ss, cs⟩ with
    | false =>
      have := wrong_run hr (l.take n.toNat)
      simp +contextual (maxSteps := 4000000) only [↓exT_call G25_14, ↓exT_callo G25_14, ↓exT_calloG G25_14, ↓exT_call G25_21, ↓exT_callo G25_21, ↓exT_calloG G25_21, hr, this, go_sem, Nat.reduceAdd, Nat.reduceSub, Nat.reduceMul, Nat.reduceEqDiff, Nat.reduceLeDiff, Nat.reduceLT, Nat.reduceBEq, Int.reduceLE, Int.reduceLT, Int.reduceToNat, Int.reduceNeg, Int.reduceAdd, Int.reduceSub, Int.reduceMul, ↓reduceIte]
    | true =>
    simp +contextual (maxSteps := 4000000) only [↓exT_call G25_14, ↓exT_callo G25_14, ↓exT_calloG G25_14, ↓exT_call G25_21, ↓exT_callo G25_21, ↓exT_calloG G25_21, hr, go_sem, Nat.reduceAdd, Nat.reduceSub, Nat.reduceMul, Nat.reduceEqDiff, Nat.reduceLeDiff, Nat.reduceLT, Nat.reduceBEq, Int.reduceLE, Int.reduceLT, Int.reduceToNat, Int.reduceNeg, Int.reduceAdd, Int.reduceSub, Int.reduceMul, ↓reduceIte]
    refine awp_loopM (α := Nat × Bool × Bool) (fun y => [(1, .c (.s (.list 3 (encs opE l) h))), (2, .c (.s (.int .i64 n))), (3, .c (.ptr 3 0)), (6, .c (.ptr 6 0)), (7, .c (.s (.int .i64 y.1)))])
      (fun y => [(3, .box [.s (.list 1 (encs strE (runD ⟨ss, cs⟩ (l.take y.1)).sectors) y.2.1), .s (.list 2 (encs wrE (runD ⟨ss, cs⟩ (l.take y.1)).cache) y.2.2)]), (6, .box [.s (.list 0 [] true), .s (.list 0 [] true)])])
      (fun y => l.length - y.1) (0, f, g) (fun y => y.1 ≤ (l.take n.toNat).length) (Nat.zero_le _) (Weak.meets ?_) ?_
    · simp +contextual (maxSteps := 4000000) only [↓exT_call G25_14, ↓exT_callo G25_14, ↓exT_calloG G25_14, ↓exT_call G25_21, ↓exT_callo G25_21, ↓exT_calloG G25_21, go_sem, Nat.reduceAdd, Nat.reduceSub, Nat.reduceMul, Nat.reduceEqDiff, Nat.reduceLeDiff, Nat.reduceLT, Nat.reduceBEq, Int.reduceLE, Int.reduceLT, Int.reduceToNat, Int.reduceNeg, Int.reduceAdd, Int.reduceSub, Int.reduceMul, ↓reduceIte]
      simp [runD]
    rintro ⟨x, f2, g2⟩ hx
    simp only [List.length_take] at hx
    obtain ⟨hl1, hl2⟩ := run_len (l.take x) ⟨ss, cs⟩
    have hrr := right_run hr (l.take x)
    simp only at hl1 hl2
    by_cases hxl : x < l.length ∧ (x : Int) < n
    · have hxi : (x : Int) < (l.length : Int) := by omega
      have ht := run_snoc (d := ⟨ss, cs⟩) hxl.1
      generalize runD ⟨ss, cs⟩ (l.take x) = dd at *
      generalize hoo : l.getD x default = oo at *
      cases hs : oo.sync with
      | true =>
        have hst : stepD dd oo = syncD dd := by unfold stepD; rw [if_pos hs]
        have hsy := sync_get hrr
        have hsc : (syncD dd).cache = [] := by unfold syncD; rw [if_pos hrr]
        have hsr : rsyncD dd = syncD dd := by unfold rsyncD; rw [← hsy, ← hsc]
        rw [hst] at ht
        simp +contextual (maxSteps := 4000000) only [↓exT_call G25_14, ↓exT_callo G25_14, ↓exT_calloG G25_14, ↓exT_call G25_21, ↓exT_callo G25_21, ↓exT_calloG G25_21, hxi, hxl.2, hoo, hs, hsr, go_sem, Nat.reduceAdd, Nat.reduceSub, Nat.reduceMul, Nat.reduceEqDiff, Nat.reduceLeDiff, Nat.reduceLT, Nat.reduceBEq, Int.reduceLE, Int.reduceLT, Int.reduceToNat, Int.reduceNeg, Int.reduceAdd, Int.reduceSub, Int.reduceMul, ↓reduceIte]
        refine ⟨⟨by omega, by omega⟩, by omega, (x + 1, false, false), ?_⟩
        simp only [ht, List.length_take, true_and, and_true, and_self]
        omega
      | false =>
        have hst : stepD dd oo = (putW dd oo.w).1 := by unfold stepD; rw [if_neg (by simp [hs])]
        rw [hst] at ht
        cases hm : (mayD dd.sectors.length oo.w && decide ((dd.cache.length : Int) < 700)) with
        | true =>
          have e : (decide (0 ≤ oo.w.loc) && decide (oo.w.loc < (dd.sectors.length : Int)) && decide ((oo.w.data.length : Int) = 32) && decide ((dd.cache.length : Int) < 700)) = true := by
            have : decide ((oo.w.data.length : Int) = 32) = decide (oo.w.data.length = 32) := by rw [decide_eq_decide]; omega
            rw [this]; exact hm
          simp only [Bool.and_eq_true, decide_eq_true_eq] at hm
          have hp : putW dd oo.w = (⟨dd.sectors, dd.cache ++ [oo.w]⟩, 0) := by unfold putW; rw [if_pos ⟨hrr, hm.1⟩, if_neg (by omega)]
          rw [hp] at ht
          simp +contextual (maxSteps := 4000000) only [↓exT_call G25_14, ↓exT_callo G25_14, ↓exT_calloG G25_14, ↓exT_call G25_21, ↓exT_callo G25_21, ↓exT_calloG G25_21, hxi, hxl.2, hoo, hs, e, go_sem, Nat.reduceAdd, Nat.reduceSub, Nat.reduceMul, Nat.reduceEqDiff, Nat.reduceLeDiff, Nat.reduceLT, Nat.reduceBEq, Int.reduceLE, Int.reduceLT, Int.reduceToNat, Int.reduceNeg, Int.reduceAdd, Int.reduceSub, Int.reduceMul, ↓reduceIte]
          refine ⟨by omega, by omega, by omega, (x + 1, f2, false), ?_⟩
          simp only [ht, List.length_take, encs_append, true_and, and_true, and_self]
          simp [encs, wrE]
          omega
        | false =>
          have e : (decide (0 ≤ oo.w.loc) && decide (oo.w.loc < (dd.sectors.length : Int)) && decide ((oo.w.data.length : Int) = 32) && decide ((dd.cache.length : Int) < 700)) = false := by
            have : decide ((oo.w.data.length : Int) = 32) = decide (oo.w.data.length = 32) := by rw [decide_eq_decide]; omega
            rw [this]; exact hm
          have hp : (putW dd oo.w).1 = dd := by
            unfold putW
            split
            · rename_i hh
              rw [hh.2, Bool.true_and] at hm
              have := of_decide_eq_false hm
              rw [if_pos (by omega)]
            · rfl
          rw [hp] at ht
          simp +contextual (maxSteps := 4000000) only [↓exT_call G25_14, ↓exT_callo G25_14, ↓exT_calloG G25_14, ↓exT_call G25_21, ↓exT_callo G25_21, ↓exT_calloG G25_21, hxi, hxl.2, hoo, hs, e, go_sem, Nat.reduceAdd, Nat.reduceSub, Nat.reduceMul, Nat.reduceEqDiff, Nat.reduceLeDiff, Nat.reduceLT, Nat.reduceBEq, Int.reduceLE, Int.reduceLT, Int.reduceToNat, Int.reduceNeg, Int.reduceAdd, Int.reduceSub, Int.reduceMul, ↓reduceIte]
          refine ⟨by omega, (x + 1, f2, g2), ?_⟩
          simp only [ht, List.length_take, true_and, and_true, and_self]
          omega
    · have hxi : (decide ((x : Int) < (l.length : Int)) && decide ((x : Int) < n)) = false := by
        rw [Bool.eq_false_iff]; simp only [ne_eq, Bool.and_eq_true, decide_eq_true_eq]; omega
      have hxe : l.take x = l.take n.toNat := by
        by_cases h1 : x < l.length
        · have : x = n.toNat := by omega
          rw [this]
        · rw [List.take_of_length_le (by omega), List.take_of_length_le (by omega)]
      rw [hxe]
      simp +contextual (maxSteps := 4000000) only [↓exT_call G25_14, ↓exT_callo G25_14, ↓exT_calloG G25_14, ↓exT_call G25_21, ↓exT_callo G25_21, ↓exT_calloG G25_21, hxi, go_sem, Nat.reduceAdd, Nat.reduceSub, Nat.reduceMul, Nat.reduceEqDiff, Nat.reduceLeDiff, Nat.reduceLT, Nat.reduceBEq, Int.reduceLE, Int.reduceLT, Int.reduceToNat, Int.reduceNeg, Int.reduceAdd, Int.reduceSub, Int.reduceMul, ↓reduceIte]

end Go.Proofs.Ytcnemnehjpaggaa
