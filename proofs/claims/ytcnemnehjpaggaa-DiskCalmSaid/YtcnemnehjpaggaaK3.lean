/- The functions of package disk, third part: sync, crash, run. -/
import Derived.Test.YtcnemnehjpaggaaK2
set_option linter.all false
namespace Go.Proofs.Ytcnemnehjpaggaa
open Go Go.Ab Go.Proofs Go.Fs
theorem sync_call {ss : List Bs} {cs : List Wr} {f g : Bool} {gt : Bool} {K : V → Prop} : callE doneG [.agg [.s (.list 1 (encs strE ss) f), .s (.list 2 (encs wrE cs) g)], .c (.s (.fn 37 []))] gt K =
    ((gt = true → True ∧ ss.length < 4000000 ∧ cs.length < 4000000) ∧ bindV (ifV gt (.agg [.s (.list 1 (encs strE (syncD ⟨ss, cs⟩).sectors) false), .s (.list 2 (encs wrE (syncD ⟨ss, cs⟩).cache) false)])) K) := by
  have h := doneG_call (ss := ss) (cs := cs) (f := f) (g := g) (kp := .all) (gt := gt) (K := K)
  rw [show doneD (kpP Kp.all) ⟨ss, cs⟩ = syncD ⟨ss, cs⟩ from done_sync _] at h
  exact h
theorem crash_call {ss : List Bs} {cs : List Wr} {f g : Bool} {keep : List Int} {k : Nat} {h : Bool} {gt : Bool} {K : V → Prop} : callE doneG [.agg [.s (.list 1 (encs strE ss) f), .s (.list 2 (encs wrE cs) g)], .c (.s (.fn 38 [.cref [.list k (encs numE keep) h]]))] gt K =
    ((gt = true → ((k = 1 ∨ keep = []) ∧ keep.length < 4000000) ∧ ss.length < 4000000 ∧ cs.length < 4000000) ∧ bindV (ifV gt (.agg [.s (.list 1 (encs strE (crashD ⟨ss, cs⟩ keep).sectors) false), .s (.list 2 (encs wrE (crashD ⟨ss, cs⟩ keep).cache) false)])) K) := by
  have h := doneG_call (ss := ss) (cs := cs) (f := f) (g := g) (kp := .some keep k h) (gt := gt) (K := K)
  rw [show doneD (kpP (Kp.some keep k _)) ⟨ss, cs⟩ = crashD ⟨ss, cs⟩ keep from done_crash _ _] at h
  exact h
def syncG_enc : (List Bs) × (List Wr) × (Bool) × (Bool) → List V := fun ⟨ss, cs, f, g⟩ => [.agg [.s (.list 1 (encs strE ss) f), .s (.list 2 (encs wrE cs) g)]]
theorem syncG_inj : ∀ x y, syncG_enc x = syncG_enc y → x = y := by
  rintro ⟨ss, cs, f, g⟩ ⟨ss2, cs2, f2, g2⟩ h
  simp only [syncG_enc, List.cons.injEq, V.c.injEq, V.agg.injEq, C.s.injEq, S.list.injEq, S.str.injEq, S.int.injEq, S.bool.injEq, S.fn.injEq, S.cref.injEq, strE_inj, true_and, and_true, wrE_inj] at h
  simp_all
noncomputable def syncG : List V → Option (V) := specE syncG_enc (fun ⟨ss, cs, f, g⟩ => ss.length < 4000000 ∧ cs.length < 4000000) (fun ⟨ss, cs, f, g⟩ => .agg [.s (.list 1 (encs strE (syncD ⟨ss, cs⟩).sectors) false), .s (.list 2 (encs wrE (syncD ⟨ss, cs⟩).cache) false)])
theorem syncG_eq {ss : List Bs} {cs : List Wr} {f : Bool} {g : Bool} [Decidable (ss.length < 4000000 ∧ cs.length < 4000000)] : syncG [.agg [.s (.list 1 (encs strE ss) f), .s (.list 2 (encs wrE cs) g)]] = if ss.length < 4000000 ∧ cs.length < 4000000 then some (.agg [.s (.list 1 (encs strE (syncD ⟨ss, cs⟩).sectors) false), .s (.list 2 (encs wrE (syncD ⟨ss, cs⟩).cache) false)]) else none := specE_eq syncG_inj (ss, cs, f, g)
theorem syncG_call {ss : List Bs} {cs : List Wr} {f : Bool} {g : Bool} {gt : Bool} {K : V → Prop} : callE syncG [.agg [.s (.list 1 (encs strE ss) f), .s (.list 2 (encs wrE cs) g)]] gt K = ((gt = true → ss.length < 4000000 ∧ cs.length < 4000000) ∧ bindV (ifV gt (.agg [.s (.list 1 (encs strE (syncD ⟨ss, cs⟩).sectors) false), .s (.list 2 (encs wrE (syncD ⟨ss, cs⟩).cache) false)])) K) := by
  have := Classical.propDecidable (ss.length < 4000000 ∧ cs.length < 4000000)
  exact callE_of syncG_eq
theorem syncG_callo {ss : List Bs} {cs : List Wr} {f : Bool} {g : Bool} {m : Nat → Option Ab.Obj} {locs : List Nat} {K : V → (Nat → Option Ab.Obj) → Prop} : callO syncG (some [.agg [.s (.list 1 (encs strE ss) f), .s (.list 2 (encs wrE cs) g)]]) m locs K = ((ss.length < 4000000 ∧ cs.length < 4000000) ∧ K (.agg [.s (.list 1 (encs strE (syncD ⟨ss, cs⟩).sectors) false), .s (.list 2 (encs wrE (syncD ⟨ss, cs⟩).cache) false)]) (sealW m locs (.agg [.s (.list 1 (encs strE (syncD ⟨ss, cs⟩).sectors) false), .s (.list 2 (encs wrE (syncD ⟨ss, cs⟩).cache) false)]))) := by
  have := Classical.propDecidable (ss.length < 4000000 ∧ cs.length < 4000000)
  exact callO_of syncG_eq
attribute [go_sem] syncG_call syncG_callo

def sc_disk_Sync : SC := .seq (.reg [⟨some 1, .box 2, [.t 0], none⟩,
⟨some 2, .alloc [.list 0 [] true, .list 0 [] true], [], none⟩]) (.seq (.reg [⟨some 3, .load 2 true, [.t 1], none⟩,
⟨some 4, .call 36, [.t 3, .k (.c (.s (.fn 37 [])))], none⟩,
⟨none, .store 2 true, [.t 2, .t 4], none⟩]) (.ret))
noncomputable def G_disk_Sync : FuncId → Ab.Spec := addS (addS (noS) 36 (plain doneG)) 37 (plain sync1G)
theorem G_disk_Sync_ok : ∀ f, Contract Try.prog f (G_disk_Sync f) := (addS_ok (addS_ok (noS_ok _) contract_disk_done) contract_disk_Sync_1)
theorem G19_36 : G_disk_Sync 36 = plain doneG := by simp [G_disk_Sync, addS]
theorem G19_37 : G_disk_Sync 37 = plain sync1G := by simp [G_disk_Sync, addS]
set_option maxHeartbeats 16000000 in
set_option maxRecDepth 1000000 in
set_option linter.unusedSimpArgs false in
set_option linter.unusedVariables false in
theorem contract_disk_Sync : Contract Try.prog 19 (plain syncG) := by
  have hb : ∃ c, Try.f19.body = some c ∧ codeOk 5 c = true ∧ cCode Try.prog c = sc_disk_Sync := ⟨_, rfl, by kernel_rfl, by kernel_rfl⟩
  obtain ⟨c, hb1, hb2, hb3⟩ := hb
  refine contract_of (n := 1) G_disk_Sync_ok hB hD Try.func19 hb1 (by kernel_rfl) hb2 hb3 (rs := [.cell 2 2 true]) (by kernel_rfl) (by decide) ?_ ?_
  · intro args x h
    obtain ⟨y, hy, -⟩ := Option.map_eq_some_iff.1 h
    obtain ⟨⟨ss, cs, f, g⟩, rfl, -⟩ := specE_some hy
    rfl
  · intro args r hr
    obtain ⟨y, hy, rfl⟩ := Option.map_eq_some_iff.1 hr
    obtain ⟨⟨ss, cs, f, g⟩, rfl, hc, rfl⟩ := specE_some hy
    clear hr hy
    have hc : ss.length < 4000000 ∧ cs.length < 4000000 := hc
    change awp _ _ (postQ _ (.v (.agg [.s (.list 1 (encs strE (syncD ⟨ss, cs⟩).sectors) false), .s (.list 2 (encs wrE (syncD ⟨ss, cs⟩).cache) false)]))) _
    unfold syncG_enc sc_disk_Sync
    simp +contextual (maxSteps := 4000000) only [↓exT_call G19_36, ↓exT_callo G19_36, ↓exT_calloG G19_36, ↓exT_call G19_37, ↓exT_callo G19_37, ↓exT_calloG G19_37, sync_call, go_sem, Nat.reduceAdd, Nat.reduceSub, Nat.reduceMul, Nat.reduceEqDiff, Nat.reduceLeDiff, Nat.reduceLT, Nat.reduceBEq, Int.reduceLE, Int.reduceLT, Int.reduceToNat, Int.reduceNeg, Int.reduceAdd, Int.reduceSub, Int.reduceMul, ↓reduceIte]
    exact hc

def crashG_enc : (List Bs) × (List Wr) × (Bool) × (Bool) × (List Int) × (Nat) × (Bool) → List V := fun ⟨ss, cs, f, g, keep, k, h⟩ => [.agg [.s (.list 1 (encs strE ss) f), .s (.list 2 (encs wrE cs) g)], .c (.s (.list k (encs numE keep) h))]
theorem crashG_inj : ∀ x y, crashG_enc x = crashG_enc y → x = y := by
  rintro ⟨ss, cs, f, g, keep, k, h⟩ ⟨ss2, cs2, f2, g2, keep2, k2, h2⟩ h
  simp only [crashG_enc, List.cons.injEq, V.c.injEq, V.agg.injEq, C.s.injEq, S.list.injEq, S.str.injEq, S.int.injEq, S.bool.injEq, S.fn.injEq, S.cref.injEq, strE_inj, true_and, and_true, wrE_inj, numE_inj] at h
  simp_all
noncomputable def crashG : List V → Option (V) := specE crashG_enc (fun ⟨ss, cs, f, g, keep, k, h⟩ => ((k = 1 ∨ keep = []) ∧ keep.length < 4000000) ∧ ss.length < 4000000 ∧ cs.length < 4000000) (fun ⟨ss, cs, f, g, keep, k, h⟩ => .agg [.s (.list 1 (encs strE (crashD ⟨ss, cs⟩ keep).sectors) false), .s (.list 2 (encs wrE (crashD ⟨ss, cs⟩ keep).cache) false)])
theorem crashG_eq {ss : List Bs} {cs : List Wr} {f : Bool} {g : Bool} {keep : List Int} {k : Nat} {h : Bool} [Decidable (((k = 1 ∨ keep = []) ∧ keep.length < 4000000) ∧ ss.length < 4000000 ∧ cs.length < 4000000)] : crashG [.agg [.s (.list 1 (encs strE ss) f), .s (.list 2 (encs wrE cs) g)], .c (.s (.list k (encs numE keep) h))] = if ((k = 1 ∨ keep = []) ∧ keep.length < 4000000) ∧ ss.length < 4000000 ∧ cs.length < 4000000 then some (.agg [.s (.list 1 (encs strE (crashD ⟨ss, cs⟩ keep).sectors) false), .s (.list 2 (encs wrE (crashD ⟨ss, cs⟩ keep).cache) false)]) else none := specE_eq crashG_inj (ss, cs, f, g, keep, k, h)
theorem crashG_call {ss : List Bs} {cs : List Wr} {f : Bool} {g : Bool} {keep : List Int} {k : Nat} {h : Bool} {gt : Bool} {K : V → Prop} : callE crashG [.agg [.s (.list 1 (encs strE ss) f), .s (.list 2 (encs wrE cs) g)], .c (.s (.list k (encs numE keep) h))] gt K = ((gt = true → ((k = 1 ∨ keep = []) ∧ keep.length < 4000000) ∧ ss.length < 4000000 ∧ cs.length < 4000000) ∧ bindV (ifV gt (.agg [.s (.list 1 (encs strE (crashD ⟨ss, cs⟩ keep).sectors) false), .s (.list 2 (encs wrE (crashD ⟨ss, cs⟩ keep).cache) false)])) K) := by
  have := Classical.propDecidable (((k = 1 ∨ keep = []) ∧ keep.length < 4000000) ∧ ss.length < 4000000 ∧ cs.length < 4000000)
  exact callE_of crashG_eq
theorem crashG_callo {ss : List Bs} {cs : List Wr} {f : Bool} {g : Bool} {keep : List Int} {k : Nat} {h : Bool} {m : Nat → Option Ab.Obj} {locs : List Nat} {K : V → (Nat → Option Ab.Obj) → Prop} : callO crashG (some [.agg [.s (.list 1 (encs strE ss) f), .s (.list 2 (encs wrE cs) g)], .c (.s (.list k (encs numE keep) h))]) m locs K = ((((k = 1 ∨ keep = []) ∧ keep.length < 4000000) ∧ ss.length < 4000000 ∧ cs.length < 4000000) ∧ K (.agg [.s (.list 1 (encs strE (crashD ⟨ss, cs⟩ keep).sectors) false), .s (.list 2 (encs wrE (crashD ⟨ss, cs⟩ keep).cache) false)]) (sealW m locs (.agg [.s (.list 1 (encs strE (crashD ⟨ss, cs⟩ keep).sectors) false), .s (.list 2 (encs wrE (crashD ⟨ss, cs⟩ keep).cache) false)]))) := by
  have := Classical.propDecidable (((k = 1 ∨ keep = []) ∧ keep.length < 4000000) ∧ ss.length < 4000000 ∧ cs.length < 4000000)
  exact callO_of crashG_eq
attribute [go_sem] crashG_call crashG_callo

def sc_disk_Crash : SC := .seq (.reg [⟨some 2, .box 2, [.t 0], none⟩,
⟨some 3, .box 1, [.t 1], none⟩,
⟨some 4, .alloc [.list 0 [] true, .list 0 [] true], [], none⟩]) (.seq (.reg [⟨some 5, .load 2 true, [.t 2], none⟩,
⟨some 6, .mkfn 38, [.t 3], none⟩,
⟨some 7, .call 36, [.t 5, .t 6], none⟩,
⟨none, .store 2 true, [.t 4, .t 7], none⟩]) (.ret))
noncomputable def G_disk_Crash : FuncId → Ab.Spec := addS (addS (noS) 38 (plain crash1G)) 36 (plain doneG)
theorem G_disk_Crash_ok : ∀ f, Contract Try.prog f (G_disk_Crash f) := (addS_ok (addS_ok (noS_ok _) contract_disk_Crash_1) contract_disk_done)
theorem G20_38 : G_disk_Crash 38 = plain crash1G := by simp [G_disk_Crash, addS]
theorem G20_36 : G_disk_Crash 36 = plain doneG := by simp [G_disk_Crash, addS]
set_option maxHeartbeats 16000000 in
set_option maxRecDepth 1000000 in
set_option linter.unusedSimpArgs false in
set_option linter.unusedVariables false in
theorem contract_disk_Crash : Contract Try.prog 20 (plain crashG) := by
  have hb : ∃ c, Try.f20.body = some c ∧ codeOk 8 c = true ∧ cCode Try.prog c = sc_disk_Crash := ⟨_, rfl, by kernel_rfl, by kernel_rfl⟩
  obtain ⟨c, hb1, hb2, hb3⟩ := hb
  refine contract_of (n := 2) G_disk_Crash_ok hB hD Try.func20 hb1 (by kernel_rfl) hb2 hb3 (rs := [.cell 4 2 true]) (by kernel_rfl) (by decide) ?_ ?_
  · intro args x h
    obtain ⟨y, hy, -⟩ := Option.map_eq_some_iff.1 h
    obtain ⟨⟨ss, cs, f, g, keep, k, h⟩, rfl, -⟩ := specE_some hy
    rfl
  · intro args r hr
    obtain ⟨y, hy, rfl⟩ := Option.map_eq_some_iff.1 hr
    obtain ⟨⟨ss, cs, f, g, keep, k, h⟩, rfl, hc, rfl⟩ := specE_some hy
    clear hr hy
    have hc : ((k = 1 ∨ keep = []) ∧ keep.length < 4000000) ∧ ss.length < 4000000 ∧ cs.length < 4000000 := hc
    change awp _ _ (postQ _ (.v (.agg [.s (.list 1 (encs strE (crashD ⟨ss, cs⟩ keep).sectors) false), .s (.list 2 (encs wrE (crashD ⟨ss, cs⟩ keep).cache) false)]))) _
    unfold crashG_enc sc_disk_Crash
    simp +contextual (maxSteps := 4000000) only [↓exT_call G20_38, ↓exT_callo G20_38, ↓exT_calloG G20_38, ↓exT_call G20_36, ↓exT_callo G20_36, ↓exT_calloG G20_36, crash_call, go_sem, Nat.reduceAdd, Nat.reduceSub, Nat.reduceMul, Nat.reduceEqDiff, Nat.reduceLeDiff, Nat.reduceLT, Nat.reduceBEq, Int.reduceLE, Int.reduceLT, Int.reduceToNat, Int.reduceNeg, Int.reduceAdd, Int.reduceSub, Int.reduceMul, ↓reduceIte]
    exact hc

def runN (d : Disk) (l : List DOp) (n : Int) : Disk := runD d (l.take n.toNat)
def runG_enc : (List Bs) × (List Wr) × (Bool) × (Bool) × (List DOp) × (Bool) × (Int) → List V := fun ⟨ss, cs, f, g, l, h, n⟩ => [.agg [.s (.list 1 (encs strE ss) f), .s (.list 2 (encs wrE cs) g)], .c (.s (.list 3 (encs opE l) h)), .c (.s (.int .i64 n))]
theorem runG_inj : ∀ x y, runG_enc x = runG_enc y → x = y := by
  rintro ⟨ss, cs, f, g, l, h, n⟩ ⟨ss2, cs2, f2, g2, l2, h2, n2⟩ h
  simp only [runG_enc, List.cons.injEq, V.c.injEq, V.agg.injEq, C.s.injEq, S.list.injEq, S.str.injEq, S.int.injEq, S.bool.injEq, S.fn.injEq, S.cref.injEq, strE_inj, true_and, and_true, wrE_inj, opE_inj] at h
  simp_all
noncomputable def runG : List V → Option (V) := specE runG_enc (fun ⟨ss, cs, f, g, l, h, n⟩ => ss.length < 4000000 ∧ cs.length < 4000000 ∧ l.length < 4000000) (fun ⟨ss, cs, f, g, l, h, n⟩ => .agg [.s (.list 1 (encs strE (runN ⟨ss, cs⟩ l n).sectors) false), .s (.list 2 (encs wrE (runN ⟨ss, cs⟩ l n).cache) false)])
theorem runG_eq {ss : List Bs} {cs : List Wr} {f : Bool} {g : Bool} {l : List DOp} {h : Bool} {n : Int} [Decidable (ss.length < 4000000 ∧ cs.length < 4000000 ∧ l.length < 4000000)] : runG [.agg [.s (.list 1 (encs strE ss) f), .s (.list 2 (encs wrE cs) g)], .c (.s (.list 3 (encs opE l) h)), .c (.s (.int .i64 n))] = if ss.length < 4000000 ∧ cs.length < 4000000 ∧ l.length < 4000000 then some (.agg [.s (.list 1 (encs strE (runN ⟨ss, cs⟩ l n).sectors) false), .s (.list 2 (encs wrE (runN ⟨ss, cs⟩ l n).cache) false)]) else none := specE_eq runG_inj (ss, cs, f, g, l, h, n)
theorem runG_call {ss : List Bs} {cs : List Wr} {f : Bool} {g : Bool} {l : List DOp} {h : Bool} {n : Int} {gt : Bool} {K : V → Prop} : callE runG [.agg [.s (.list 1 (encs strE ss) f), .s (.list 2 (encs wrE cs) g)], .c (.s (.list 3 (encs opE l) h)), .c (.s (.int .i64 n))] gt K = ((gt = true → ss.length < 4000000 ∧ cs.length < 4000000 ∧ l.length < 4000000) ∧ bindV (ifV gt (.agg [.s (.list 1 (encs strE (runN ⟨ss, cs⟩ l n).sectors) false), .s (.list 2 (encs wrE (runN ⟨ss, cs⟩ l n).cache) false)])) K) := by
  have := Classical.propDecidable (ss.length < 4000000 ∧ cs.length < 4000000 ∧ l.length < 4000000)
  exact callE_of runG_eq
theorem runG_callo {ss : List Bs} {cs : List Wr} {f : Bool} {g : Bool} {l : List DOp} {h : Bool} {n : Int} {m : Nat → Option Ab.Obj} {locs : List Nat} {K : V → (Nat → Option Ab.Obj) → Prop} : callO runG (some [.agg [.s (.list 1 (encs strE ss) f), .s (.list 2 (encs wrE cs) g)], .c (.s (.list 3 (encs opE l) h)), .c (.s (.int .i64 n))]) m locs K = ((ss.length < 4000000 ∧ cs.length < 4000000 ∧ l.length < 4000000) ∧ K (.agg [.s (.list 1 (encs strE (runN ⟨ss, cs⟩ l n).sectors) false), .s (.list 2 (encs wrE (runN ⟨ss, cs⟩ l n).cache) false)]) (sealW m locs (.agg [.s (.list 1 (encs strE (runN ⟨ss, cs⟩ l n).sectors) false), .s (.list 2 (encs wrE (runN ⟨ss, cs⟩ l n).cache) false)]))) := by
  have := Classical.propDecidable (ss.length < 4000000 ∧ cs.length < 4000000 ∧ l.length < 4000000)
  exact callO_of runG_eq
attribute [go_sem] runG_call runG_callo

def sc_disk_Run : SC := .seq (.reg [⟨some 3, .box 2, [.t 0], none⟩,
⟨some 6, .alloc [.list 0 [] true, .list 0 [] true], [], none⟩]) (.seq (.seq (.reg [⟨some 9, .mv, [.t 1], none⟩,
⟨some 10, .mv, [.t 2], none⟩,
⟨some 11, .mnx true, [.t 10, .k (.c (.s (.int .i64 0)))], none⟩,
⟨some 12, .mv, [.t 1], none⟩,
⟨some 13, .len false, [.t 12], none⟩,
⟨some 14, .mnx false, [.t 11, .t 13], none⟩,
⟨some 15, .slcL 3 false true false, [.t 9, .t 14], none⟩,
⟨some 16, .len false, [.t 15], none⟩,
⟨some 17, .mv, [.k (.c (.s (.int .i64 0)))], none⟩]) (.block 0 (.loop (.seq (.reg [⟨some 18, .bin .lss, [.t 17, .t 16], none⟩]) (.seq (.cond (.t 18) (.skip) (.exit 0)) (.seq (.block 1 (.seq (.reg [⟨some 19, .iadr 3, [.t 15, .t 17], none⟩,
⟨some 20, .load 3 true, [.t 19], none⟩,
⟨some 8, .alloc [.bool false, .int .i64 0, .str []], [], none⟩,
⟨none, .store 3 true, [.t 8, .t 20], none⟩]) (.seq (.reg [⟨some 21, .fadr 0, [.t 8], none⟩,
⟨some 22, .load 1 false, [.t 21], none⟩]) (.cond (.t 22) (.reg [⟨some 23, .load 2 true, [.t 3], none⟩,
⟨some 24, .call 19, [.t 23], none⟩,
⟨none, .store 2 true, [.t 3, .t 24], none⟩]) (.reg [⟨some 26, .load 2 true, [.t 3], none⟩,
⟨some 27, .fadr 1, [.t 8], none⟩,
⟨some 28, .load 2 true, [.t 27], none⟩,
⟨some 29, .call 16, [.t 26, .t 28], none⟩,
⟨some 25, .mv, [.t 29], none⟩,
⟨some 30, .ext 0, [.t 25], none⟩,
⟨some 31, .ext 1, [.t 25], none⟩,
⟨none, .store 2 true, [.t 3, .t 30], none⟩]))))) (.reg [⟨some 32, .bin .add, [.t 17, .k (.c (.s (.int .i64 1)))], none⟩,
⟨some 17, .mv, [.t 32], none⟩]))))))) (.seq (.reg [⟨some 33, .load 2 true, [.t 3], none⟩,
⟨none, .store 2 true, [.t 6, .t 33], none⟩]) (.ret)))
noncomputable def G_disk_Run : FuncId → Ab.Spec := addS (addS (noS) 19 (plain syncG)) 16 (plain putG)
theorem G_disk_Run_ok : ∀ f, Contract Try.prog f (G_disk_Run f) := (addS_ok (addS_ok (noS_ok _) contract_disk_Sync) contract_disk_Put)
theorem G24_19 : G_disk_Run 19 = plain syncG := by simp [G_disk_Run, addS]
theorem G24_16 : G_disk_Run 16 = plain putG := by simp [G_disk_Run, addS]
set_option maxHeartbeats 16000000 in
set_option maxRecDepth 1000000 in
set_option linter.unusedSimpArgs false in
set_option linter.unusedVariables false in
theorem contract_disk_Run : Contract Try.prog 24 (plain runG) := by
  have hb : ∃ c, Try.f24.body = some c ∧ codeOk 34 c = true ∧ cCode Try.prog c = sc_disk_Run := ⟨_, rfl, by kernel_rfl, by kernel_rfl⟩
  obtain ⟨c, hb1, hb2, hb3⟩ := hb
  refine contract_of (n := 3) G_disk_Run_ok hB hD Try.func24 hb1 (by kernel_rfl) hb2 hb3 (rs := [.cell 6 2 true]) (by kernel_rfl) (by decide) ?_ ?_
  · intro args x h
    obtain ⟨y, hy, -⟩ := Option.map_eq_some_iff.1 h
    obtain ⟨⟨ss, cs, f, g, l, h, n⟩, rfl, -⟩ := specE_some hy
    rfl
  · intro args r hr
    obtain ⟨y, hy, rfl⟩ := Option.map_eq_some_iff.1 hr
    obtain ⟨⟨ss, cs, f, g, l, h, n⟩, rfl, hc, rfl⟩ := specE_some hy
    clear hr hy
    have hc : ss.length < 4000000 ∧ cs.length < 4000000 ∧ l.length < 4000000 := hc
    change awp _ _ (postQ _ (.v (.agg [.s (.list 1 (encs strE (runN ⟨ss, cs⟩ l n).sectors) false), .s (.list 2 (encs wrE (runN ⟨ss, cs⟩ l n).cache) false)]))) _
    unfold runG_enc sc_disk_Run
    have hm : 0 ≤ min (max n 0) (l.length : Int) ∧ min (max n 0) (l.length : Int) ≤ (l.length : Int) := by omega
    have ht : l.take (min (max n 0) (l.length : Int)).toNat = l.take n.toNat := by
      have : (min (max n 0) (l.length : Int)).toNat = min n.toNat l.length := by omega
      rw [this, ← List.take_take, List.take_length]
    simp +contextual (maxSteps := 4000000) only [↓exT_call G24_19, ↓exT_callo G24_19, ↓exT_calloG G24_19, ↓exT_call G24_16, ↓exT_callo G24_16, ↓exT_calloG G24_16, hm.1, hm.2, ht, go_sem, Nat.reduceAdd, Nat.reduceSub, Nat.reduceMul, Nat.reduceEqDiff, Nat.reduceLeDiff, Nat.reduceLT, Nat.reduceBEq, Int.reduceLE, Int.reduceLT, Int.reduceToNat, Int.reduceNeg, Int.reduceAdd, Int.reduceSub, Int.reduceMul, ↓reduceIte]
    generalize hfl : (h && decide ((min (max n 0) (l.length : Int)).toNat = l.length)) = fl
    have hq : runN ⟨ss, cs⟩ l n = runD ⟨ss, cs⟩ (l.take n.toNat) := rfl
    rw [hq]
    have hql : (l.take n.toNat).length < 4000000 := by simp; omega
    generalize l.take n.toNat = q at *
    refine awp_loopM (α := Nat × Bool × Bool) (fun y => [(3, .c (.ptr 3 0)), (6, .c (.ptr 6 0)), (15, .c (.s (.list 3 (encs opE q) fl))), (16, .c (.s (.int .i64 q.length))), (17, .c (.s (.int .i64 y.1)))])
      (fun y => [(3, .box [.s (.list 1 (encs strE (runD ⟨ss, cs⟩ (q.take y.1)).sectors) y.2.1), .s (.list 2 (encs wrE (runD ⟨ss, cs⟩ (q.take y.1)).cache) y.2.2)]), (6, .box [.s (.list 0 [] true), .s (.list 0 [] true)])])
      (fun y => q.length - y.1) (0, f, g) (fun y => y.1 ≤ q.length) (Nat.zero_le _) (Weak.meets ?_) ?_
    · simp +contextual (maxSteps := 4000000) only [↓exT_call G24_19, ↓exT_callo G24_19, ↓exT_calloG G24_19, ↓exT_call G24_16, ↓exT_callo G24_16, ↓exT_calloG G24_16, hfl, go_sem, Nat.reduceAdd, Nat.reduceSub, Nat.reduceMul, Nat.reduceEqDiff, Nat.reduceLeDiff, Nat.reduceLT, Nat.reduceBEq, Int.reduceLE, Int.reduceLT, Int.reduceToNat, Int.reduceNeg, Int.reduceAdd, Int.reduceSub, Int.reduceMul, ↓reduceIte]
      simp [runD]
    rintro ⟨x, f1, g1⟩ hx
    simp only at hx
    obtain ⟨hl1, hl2⟩ := run_len (q.take x) ⟨ss, cs⟩
    simp only at hl1 hl2
    by_cases hxl : x < q.length
    · have hxi : (x : Int) < (q.length : Int) := by omega
      have ht := run_snoc (d := ⟨ss, cs⟩) hxl
      generalize runD ⟨ss, cs⟩ (q.take x) = dd at *
      generalize hoo : q.getD x default = oo at *
      cases hs : oo.sync with
      | true =>
        have hst : stepD dd oo = syncD dd := by unfold stepD; rw [if_pos hs]
        rw [hst] at ht
        simp +contextual (maxSteps := 4000000) only [↓exT_call G24_19, ↓exT_callo G24_19, ↓exT_calloG G24_19, ↓exT_call G24_16, ↓exT_callo G24_16, ↓exT_calloG G24_16, hxi, hoo, hs, go_sem, Nat.reduceAdd, Nat.reduceSub, Nat.reduceMul, Nat.reduceEqDiff, Nat.reduceLeDiff, Nat.reduceLT, Nat.reduceBEq, Int.reduceLE, Int.reduceLT, Int.reduceToNat, Int.reduceNeg, Int.reduceAdd, Int.reduceSub, Int.reduceMul, ↓reduceIte]
        refine ⟨⟨by omega, by omega⟩, by omega, (x + 1, false, false), ?_⟩
        simp only [ht, true_and, and_true, and_self]
        omega
      | false =>
        have hst : stepD dd oo = (putW dd oo.w).1 := by unfold stepD; rw [if_neg (by simp [hs])]
        rw [hst] at ht
        simp +contextual (maxSteps := 4000000) only [↓exT_call G24_19, ↓exT_callo G24_19, ↓exT_calloG G24_19, ↓exT_call G24_16, ↓exT_callo G24_16, ↓exT_calloG G24_16, hxi, hoo, hs, go_sem, Nat.reduceAdd, Nat.reduceSub, Nat.reduceMul, Nat.reduceEqDiff, Nat.reduceLeDiff, Nat.reduceLT, Nat.reduceBEq, Int.reduceLE, Int.reduceLT, Int.reduceToNat, Int.reduceNeg, Int.reduceAdd, Int.reduceSub, Int.reduceMul, ↓reduceIte]
        refine ⟨⟨by omega, by omega⟩, by omega, (x + 1, false, false), ?_⟩
        simp only [ht, true_and, and_true, and_self]
        omega
    · have hxi : ¬ (x : Int) < (q.length : Int) := by omega
      obtain rfl : x = q.length := by omega
      rw [List.take_length]
      simp +contextual (maxSteps := 4000000) only [↓exT_call G24_19, ↓exT_callo G24_19, ↓exT_calloG G24_19, ↓exT_call G24_16, ↓exT_callo G24_16, ↓exT_calloG G24_16, hxi, go_sem, Nat.reduceAdd, Nat.reduceSub, Nat.reduceMul, Nat.reduceEqDiff, Nat.reduceLeDiff, Nat.reduceLT, Nat.reduceBEq, Int.reduceLE, Int.reduceLT, Int.reduceToNat, Int.reduceNeg, Int.reduceAdd, Int.reduceSub, Int.reduceMul, ↓reduceIte]

end Go.Proofs.Ytcnemnehjpaggaa
