/- The functions of package disk, second part: what is read, written, synced, lost and run. -/
import Derived.Test.YtcnemnehjpaggaaK1
set_option linter.all false
namespace Go.Proofs.Ytcnemnehjpaggaa
open Go Go.Ab Go.Proofs Go.Fs
theorem eta_disk (d : Disk) : Disk.mk d.sectors d.cache = d := nr rfl
theorem eta_wr (w : Wr) : Wr.mk w.loc w.data = w := nr rfl
theorem eta_op (o : DOp) : DOp.mk o.sync o.w = o := nr rfl
attribute [go_sem] eta_disk eta_wr eta_op
def newDI (n : Int) : Disk := ⟨newS n, []⟩
theorem new_s {n : Int} : (newDI n).sectors = newS n := nr rfl
theorem new_c {n : Int} : (newDI n).cache = [] := nr rfl
def newG : List V → Option V
  | [.c (.s (.int .i64 n))] => some (.tup [.inr [.s (.list 1 (encs strE (newDI n).sectors) false), .s (.list 2 (encs wrE (newDI n).cache) false)], .inl (.s (.int .i64 (newE n)))])
  | _ => none
theorem newG_call {n : Int} {gt : Bool} {K : V → Prop} : callE newG [.c (.s (.int .i64 n))] gt K = bindV (ifV gt (.tup [.inr [.s (.list 1 (encs strE (newDI n).sectors) false), .s (.list 2 (encs wrE (newDI n).cache) false)], .inl (.s (.int .i64 (newE n)))])) K := callE_all rfl
theorem newG_callo {n : Int} {m : Nat → Option Ab.Obj} {locs : List Nat} {K : V → (Nat → Option Ab.Obj) → Prop} : callO newG (some [.c (.s (.int .i64 n))]) m locs K = K (.tup [.inr [.s (.list 1 (encs strE (newDI n).sectors) false), .s (.list 2 (encs wrE (newDI n).cache) false)], .inl (.s (.int .i64 (newE n)))]) (sealW m locs (.tup [.inr [.s (.list 1 (encs strE (newDI n).sectors) false), .s (.list 2 (encs wrE (newDI n).cache) false)], .inl (.s (.int .i64 (newE n)))])) := callO_all rfl
attribute [go_sem] newG_call newG_callo

def sc_disk_New : SC := .seq (.reg [⟨some 2, .alloc [.list 0 [] true, .list 0 [] true], [], none⟩,
⟨some 3, .mv, [.k (.c (.s (.int .i64 0)))], none⟩]) (.seq (.seq (.reg [⟨some 4, .mv, [.t 0], none⟩,
⟨some 5, .bin .lss, [.t 4, .k (.c (.s (.int .i64 1)))], none⟩,
⟨some 6, .mv, [.t 5], none⟩,
⟨some 7, .mv, [.t 0], some (6, false)⟩,
⟨some 8, .bin .gtr, [.t 7, .k (.c (.s (.int .i64 300)))], some (6, false)⟩,
⟨some 9, .pick, [.t 6, .k (.c (.s (.bool true))), .t 8], none⟩]) (.cond (.t 9) (.seq (.reg [⟨some 10, .build [.list 0 [] true, .list 0 [] true] [], [], none⟩,
⟨none, .store 2 true, [.t 2, .t 10], none⟩,
⟨some 3, .mv, [.k (.c (.s (.int .i64 1)))], none⟩]) (.ret)) (.skip))) (.seq (.reg [⟨some 11, .call 28, [.k (.c (.s (.str [0]))), .k (.c (.s (.int .i64 32)))], none⟩,
⟨some 12, .bslice 1 1 [.str []] [0], [.t 11], none⟩,
⟨some 13, .mv, [.t 0], none⟩,
⟨some 14, .call 27, [.t 12, .t 13], none⟩,
⟨some 15, .build [.list 0 [] true, .list 0 [] true] [(0, 1)], [.t 14], none⟩,
⟨none, .store 2 true, [.t 2, .t 15], none⟩,
⟨some 3, .mv, [.k (.c (.s (.int .i64 0)))], none⟩]) (.ret)))
noncomputable def G_disk_New : FuncId → Ab.Spec := addS (addS (noS) 28 (plain repG)) 27 (plain srepG)
theorem G_disk_New_ok : ∀ f, Contract Try.prog f (G_disk_New f) := (addS_ok (addS_ok (noS_ok _) contract_strings_Repeat) contract_slices_Repeat_string)
theorem G10_28 : G_disk_New 28 = plain repG := by simp [G_disk_New, addS]
theorem G10_27 : G_disk_New 27 = plain srepG := by simp [G_disk_New, addS]
set_option maxHeartbeats 16000000 in
set_option maxRecDepth 1000000 in
set_option linter.unusedSimpArgs false in
set_option linter.unusedVariables false in
theorem contract_disk_New : Contract Try.prog 10 (plain newG) := by
  have hb : ∃ c, Try.f10.body = some c ∧ codeOk 16 c = true ∧ cCode Try.prog c = sc_disk_New := ⟨_, rfl, by kernel_rfl, by kernel_rfl⟩
  obtain ⟨c, hb1, hb2, hb3⟩ := hb
  refine contract_of (n := 1) G_disk_New_ok hB hD Try.func10 hb1 (by kernel_rfl) hb2 hb3 (rs := [.cell 2 2 true, .tmp 3]) (by kernel_rfl) (by decide) ?_ ?_
  · intro args x h
    unfold plain newG at h
    split at h <;> simp_all
  · intro args r hr
    unfold plain newG at hr
    split at hr
    case h_2 => cases hr
    rename_i n
    simp only [Option.map_some, Option.some.injEq] at hr
    subst hr
    unfold sc_disk_New
    by_cases h : 1 ≤ n ∧ n ≤ 300
    · have e : (decide (n < 1) || decide (300 < n)) = false := by simp; omega
      have h1 : newS n = List.replicate n.toNat (List.replicate 32 0) := by unfold newS; rw [if_pos h]
      have h2 : newE n = 0 := by unfold newE; rw [if_pos h]
      simp +contextual (maxSteps := 4000000) only [↓exT_call G10_28, ↓exT_callo G10_28, ↓exT_calloG G10_28, ↓exT_call G10_27, ↓exT_callo G10_27, ↓exT_calloG G10_27, e, h1, h2, rep_one, h.1, h.2, new_s, new_c, go_sem, Nat.reduceAdd, Nat.reduceSub, Nat.reduceMul, Nat.reduceEqDiff, Nat.reduceLeDiff, Nat.reduceLT, Nat.reduceBEq, Int.reduceLE, Int.reduceLT, Int.reduceToNat, Int.reduceNeg, Int.reduceAdd, Int.reduceSub, Int.reduceMul, ↓reduceIte]
    · have e : (decide (n < 1) || decide (300 < n)) = true := by simp; omega
      have h1 : newS n = [] := by unfold newS; rw [if_neg h]
      have h2 : newE n = 1 := by unfold newE; rw [if_neg h]
      simp +contextual (maxSteps := 4000000) only [↓exT_call G10_28, ↓exT_callo G10_28, ↓exT_calloG G10_28, ↓exT_call G10_27, ↓exT_callo G10_27, ↓exT_calloG G10_27, e, h1, h2, new_s, new_c, go_sem, Nat.reduceAdd, Nat.reduceSub, Nat.reduceMul, Nat.reduceEqDiff, Nat.reduceLeDiff, Nat.reduceLT, Nat.reduceBEq, Int.reduceLE, Int.reduceLT, Int.reduceToNat, Int.reduceNeg, Int.reduceAdd, Int.reduceSub, Int.reduceMul, ↓reduceIte]

def readG_enc : (List Bs) × (List Wr) × (Bool) × (Bool) × (Int) → List V := fun ⟨ss, cs, f, g, a⟩ => [.agg [.s (.list 1 (encs strE ss) f), .s (.list 2 (encs wrE cs) g)], .c (.s (.int .i64 a))]
theorem readG_inj : ∀ x y, readG_enc x = readG_enc y → x = y := by
  rintro ⟨ss, cs, f, g, a⟩ ⟨ss2, cs2, f2, g2, a2⟩ h
  simp only [readG_enc, List.cons.injEq, V.c.injEq, V.agg.injEq, C.s.injEq, S.list.injEq, S.str.injEq, S.int.injEq, S.bool.injEq, S.fn.injEq, S.cref.injEq, strE_inj, true_and, and_true, wrE_inj] at h
  simp_all
noncomputable def readG : List V → Option (V) := specE readG_enc (fun ⟨ss, cs, f, g, a⟩ => ss.length < 4000000 ∧ cs.length < 4000000) (fun ⟨ss, cs, f, g, a⟩ => .tup [.inl (.s (.str (readD ⟨ss, cs⟩ a).1)), .inl (.s (.int .i64 (readD ⟨ss, cs⟩ a).2))])
theorem readG_eq {ss : List Bs} {cs : List Wr} {f : Bool} {g : Bool} {a : Int} [Decidable (ss.length < 4000000 ∧ cs.length < 4000000)] : readG [.agg [.s (.list 1 (encs strE ss) f), .s (.list 2 (encs wrE cs) g)], .c (.s (.int .i64 a))] = if ss.length < 4000000 ∧ cs.length < 4000000 then some (.tup [.inl (.s (.str (readD ⟨ss, cs⟩ a).1)), .inl (.s (.int .i64 (readD ⟨ss, cs⟩ a).2))]) else none := specE_eq readG_inj (ss, cs, f, g, a)
theorem readG_call {ss : List Bs} {cs : List Wr} {f : Bool} {g : Bool} {a : Int} {gt : Bool} {K : V → Prop} : callE readG [.agg [.s (.list 1 (encs strE ss) f), .s (.list 2 (encs wrE cs) g)], .c (.s (.int .i64 a))] gt K = ((gt = true → ss.length < 4000000 ∧ cs.length < 4000000) ∧ bindV (ifV gt (.tup [.inl (.s (.str (readD ⟨ss, cs⟩ a).1)), .inl (.s (.int .i64 (readD ⟨ss, cs⟩ a).2))])) K) := by
  have := Classical.propDecidable (ss.length < 4000000 ∧ cs.length < 4000000)
  exact callE_of readG_eq
theorem readG_callo {ss : List Bs} {cs : List Wr} {f : Bool} {g : Bool} {a : Int} {m : Nat → Option Ab.Obj} {locs : List Nat} {K : V → (Nat → Option Ab.Obj) → Prop} : callO readG (some [.agg [.s (.list 1 (encs strE ss) f), .s (.list 2 (encs wrE cs) g)], .c (.s (.int .i64 a))]) m locs K = ((ss.length < 4000000 ∧ cs.length < 4000000) ∧ K (.tup [.inl (.s (.str (readD ⟨ss, cs⟩ a).1)), .inl (.s (.int .i64 (readD ⟨ss, cs⟩ a).2))]) (sealW m locs (.tup [.inl (.s (.str (readD ⟨ss, cs⟩ a).1)), .inl (.s (.int .i64 (readD ⟨ss, cs⟩ a).2))]))) := by
  have := Classical.propDecidable (ss.length < 4000000 ∧ cs.length < 4000000)
  exact callO_of readG_eq
attribute [go_sem] readG_call readG_callo

def sc_disk_Read : SC := .seq (.reg [⟨some 2, .box 2, [.t 0], none⟩,
⟨some 4, .mv, [.k (.c (.s (.str [])))], none⟩,
⟨some 5, .mv, [.k (.c (.s (.int .i64 0)))], none⟩]) (.seq (.seq (.reg [⟨some 7, .load 2 true, [.t 2], none⟩,
⟨some 8, .call 17, [.t 7], none⟩,
⟨some 9, .not, [.t 8], none⟩,
⟨some 10, .mv, [.t 9], none⟩,
⟨some 11, .mv, [.t 1], some (10, false)⟩,
⟨some 12, .bin .lss, [.t 11, .k (.c (.s (.int .i64 0)))], some (10, false)⟩,
⟨some 13, .pick, [.t 10, .k (.c (.s (.bool true))), .t 12], none⟩,
⟨some 14, .mv, [.t 13], none⟩,
⟨some 15, .mv, [.t 1], some (14, false)⟩,
⟨some 16, .fadr 0, [.t 2], some (14, false)⟩,
⟨some 17, .load 1 false, [.t 16], some (14, false)⟩,
⟨some 18, .len false, [.t 17], some (14, false)⟩,
⟨some 19, .bin .geq, [.t 15, .t 18], some (14, false)⟩,
⟨some 20, .pick, [.t 14, .k (.c (.s (.bool true))), .t 19], none⟩]) (.cond (.t 20) (.seq (.reg [⟨some 4, .mv, [.k (.c (.s (.str [])))], none⟩,
⟨some 5, .mv, [.k (.c (.s (.int .i64 1)))], none⟩]) (.ret)) (.skip))) (.seq (.seq (.reg [⟨some 21, .fadr 1, [.t 2], none⟩,
⟨some 22, .load 1 false, [.t 21], none⟩,
⟨some 23, .len false, [.t 22], none⟩,
⟨some 24, .bin .sub, [.t 23, .k (.c (.s (.int .i64 1)))], none⟩,
⟨some 6, .mv, [.t 24], none⟩]) (.block 0 (.loop (.seq (.seq (.reg [⟨some 25, .mv, [.t 6], none⟩,
⟨some 26, .bin .geq, [.t 25, .k (.c (.s (.int .i64 0)))], none⟩]) (.cond (.t 26) (.skip) (.exit 0))) (.seq (.block 1 (.seq (.reg [⟨some 29, .fadr 1, [.t 2], none⟩,
⟨some 30, .load 1 false, [.t 29], none⟩,
⟨some 31, .mv, [.t 6], none⟩,
⟨some 32, .iadr 2, [.t 30, .t 31], none⟩,
⟨some 33, .fadr 0, [.t 32], none⟩,
⟨some 34, .load 1 false, [.t 33], none⟩,
⟨some 35, .mv, [.t 1], none⟩,
⟨some 36, .bin .eql, [.t 34, .t 35], none⟩]) (.cond (.t 36) (.seq (.reg [⟨some 37, .fadr 1, [.t 2], none⟩,
⟨some 38, .load 1 false, [.t 37], none⟩,
⟨some 39, .mv, [.t 6], none⟩,
⟨some 40, .iadr 2, [.t 38, .t 39], none⟩,
⟨some 41, .fadr 1, [.t 40], none⟩,
⟨some 42, .load 1 false, [.t 41], none⟩,
⟨some 4, .mv, [.t 42], none⟩,
⟨some 5, .mv, [.k (.c (.s (.int .i64 0)))], none⟩]) (.ret)) (.skip)))) (.reg [⟨some 27, .mv, [.t 6], none⟩,
⟨some 28, .bin .sub, [.t 27, .k (.c (.s (.int .i64 1)))], none⟩,
⟨some 6, .mv, [.t 28], none⟩])))))) (.seq (.reg [⟨some 43, .fadr 0, [.t 2], none⟩,
⟨some 44, .load 1 false, [.t 43], none⟩,
⟨some 45, .mv, [.t 1], none⟩,
⟨some 46, .iadr 1, [.t 44, .t 45], none⟩,
⟨some 47, .load 1 false, [.t 46], none⟩,
⟨some 4, .mv, [.t 47], none⟩,
⟨some 5, .mv, [.k (.c (.s (.int .i64 0)))], none⟩]) (.ret))))
noncomputable def G_disk_Read : FuncId → Ab.Spec := addS (noS) 17 (plain rightG)
theorem G_disk_Read_ok : ∀ f, Contract Try.prog f (G_disk_Read f) := (addS_ok (noS_ok _) contract_disk_Right)
theorem G15_17 : G_disk_Read 17 = plain rightG := by simp [G_disk_Read, addS]
set_option maxHeartbeats 16000000 in
set_option maxRecDepth 1000000 in
set_option linter.unusedSimpArgs false in
set_option linter.unusedVariables false in
theorem contract_disk_Read : Contract Try.prog 15 (plain readG) := by
  have hb : ∃ c, Try.f15.body = some c ∧ codeOk 48 c = true ∧ cCode Try.prog c = sc_disk_Read := ⟨_, rfl, by kernel_rfl, by kernel_rfl⟩
  obtain ⟨c, hb1, hb2, hb3⟩ := hb
  refine contract_of (n := 2) G_disk_Read_ok hB hD Try.func15 hb1 (by kernel_rfl) hb2 hb3 (rs := [.tmp 4, .tmp 5]) (by kernel_rfl) (by decide) ?_ ?_
  · intro args x h
    obtain ⟨y, hy, -⟩ := Option.map_eq_some_iff.1 h
    obtain ⟨⟨ss, cs, f, g, a⟩, rfl, -⟩ := specE_some hy
    rfl
  · intro args r hr
    obtain ⟨y, hy, rfl⟩ := Option.map_eq_some_iff.1 hr
    obtain ⟨⟨ss, cs, f, g, a⟩, rfl, hc, rfl⟩ := specE_some hy
    clear hr hy
    have hc : ss.length < 4000000 ∧ cs.length < 4000000 := hc
    change awp _ _ (postQ _ (.v (.tup [.inl (.s (.str (readD ⟨ss, cs⟩ a).1)), .inl (.s (.int .i64 (readD ⟨ss, cs⟩ a).2))]))) _
    unfold readG_enc sc_disk_Read
    cases hr : rightD ⟨ss, cs⟩ with
    | false =>
      have h1 : readD ⟨ss, cs⟩ a = ([], 1) := by unfold readD; rw [hr, if_neg (by simp)]
      simp +contextual (maxSteps := 4000000) only [↓exT_call G15_17, ↓exT_callo G15_17, ↓exT_calloG G15_17, hr, h1, hc.1, hc.2, go_sem, Nat.reduceAdd, Nat.reduceSub, Nat.reduceMul, Nat.reduceEqDiff, Nat.reduceLeDiff, Nat.reduceLT, Nat.reduceBEq, Int.reduceLE, Int.reduceLT, Int.reduceToNat, Int.reduceNeg, Int.reduceAdd, Int.reduceSub, Int.reduceMul, ↓reduceIte]
    | true =>
    by_cases ha : 0 ≤ a ∧ a < (ss.length : Int)
    case neg =>
      have h1 : readD ⟨ss, cs⟩ a = ([], 1) := by unfold readD; rw [if_neg (fun h => ha h.2)]
      have e : (decide (a < 0) || decide ((ss.length : Int) ≤ a)) = true := by simp; omega
      simp +contextual (maxSteps := 4000000) only [↓exT_call G15_17, ↓exT_callo G15_17, ↓exT_calloG G15_17, hr, h1, hc.1, hc.2, e, go_sem, Nat.reduceAdd, Nat.reduceSub, Nat.reduceMul, Nat.reduceEqDiff, Nat.reduceLeDiff, Nat.reduceLT, Nat.reduceBEq, Int.reduceLE, Int.reduceLT, Int.reduceToNat, Int.reduceNeg, Int.reduceAdd, Int.reduceSub, Int.reduceMul, ↓reduceIte]
    obtain ⟨n, rfl⟩ : ∃ n : Nat, a = n := ⟨a.toNat, by omega⟩
    have h1 : readD ⟨ss, cs⟩ n = (lastW n cs (ss.getD n []), 0) := by unfold readD; rw [if_pos ⟨hr, ha⟩]; rfl
    have e : (decide ((n : Int) < 0) || decide ((ss.length : Int) ≤ n)) = false := by simp; omega
    simp +contextual (maxSteps := 4000000) only [↓exT_call G15_17, ↓exT_callo G15_17, ↓exT_calloG G15_17, hr, h1, hc.1, hc.2, e, go_sem, Nat.reduceAdd, Nat.reduceSub, Nat.reduceMul, Nat.reduceEqDiff, Nat.reduceLeDiff, Nat.reduceLT, Nat.reduceBEq, Int.reduceLE, Int.reduceLT, Int.reduceToNat, Int.reduceNeg, Int.reduceAdd, Int.reduceSub, Int.reduceMul, ↓reduceIte]
    refine ⟨by omega, awp_loopM (α := Nat) (fun i => [(1, .c (.s (.int .i64 n))), (2, .c (.ptr 2 0)), (6, .c (.s (.int .i64 ((i : Int) - 1))))]) (fun _ => [(2, .box [.s (.list 1 (encs strE ss) f), .s (.list 2 (encs wrE cs) g)])]) (fun i => i) cs.length (fun i => i ≤ cs.length ∧ ∀ w ∈ cs.drop i, w.loc ≠ n) ⟨Nat.le_refl _, by simp⟩ (Weak.meets ?_) ?_⟩
    · simp +contextual (maxSteps := 4000000) only [↓exT_call G15_17, ↓exT_callo G15_17, ↓exT_calloG G15_17, go_sem, Nat.reduceAdd, Nat.reduceSub, Nat.reduceMul, Nat.reduceEqDiff, Nat.reduceLeDiff, Nat.reduceLT, Nat.reduceBEq, Int.reduceLE, Int.reduceLT, Int.reduceToNat, Int.reduceNeg, Int.reduceAdd, Int.reduceSub, Int.reduceMul, ↓reduceIte]
    rintro x ⟨hx, hw⟩
    cases x with
    | zero =>
      have := lastW_none (cs := cs) (by simpa using hw) (ss.getD n [])
      have h0 : ¬ (0 : Int) ≤ ((0 : Nat) : Int) - 1 := by omega
      simp +contextual (maxSteps := 4000000) only [↓exT_call G15_17, ↓exT_callo G15_17, ↓exT_calloG G15_17, this, h0, go_sem, Nat.reduceAdd, Nat.reduceSub, Nat.reduceMul, Nat.reduceEqDiff, Nat.reduceLeDiff, Nat.reduceLT, Nat.reduceBEq, Int.reduceLE, Int.reduceLT, Int.reduceToNat, Int.reduceNeg, Int.reduceAdd, Int.reduceSub, Int.reduceMul, ↓reduceIte]
      exact ⟨ha.2, rfl⟩
    | succ i =>
      have hi : i < cs.length := by omega
      have hin : (((i + 1 : Nat) : Int) - 1) = i := by omega
      have hxi : (i : Int) < (cs.length : Int) := by omega
      by_cases hl : (cs.getD i default).loc = n
      · have := lastW_hit hi hw hl (ss.getD n [])
        simp +contextual (maxSteps := 4000000) only [↓exT_call G15_17, ↓exT_callo G15_17, ↓exT_calloG G15_17, hin, hxi, hl, this, go_sem, Nat.reduceAdd, Nat.reduceSub, Nat.reduceMul, Nat.reduceEqDiff, Nat.reduceLeDiff, Nat.reduceLT, Nat.reduceBEq, Int.reduceLE, Int.reduceLT, Int.reduceToNat, Int.reduceNeg, Int.reduceAdd, Int.reduceSub, Int.reduceMul, ↓reduceIte]
      · have hd := drop_all (Q := fun w : Wr => w.loc ≠ n) hi hw hl
        simp +contextual (maxSteps := 4000000) only [↓exT_call G15_17, ↓exT_callo G15_17, ↓exT_calloG G15_17, hin, hxi, hl, go_sem, Nat.reduceAdd, Nat.reduceSub, Nat.reduceMul, Nat.reduceEqDiff, Nat.reduceLeDiff, Nat.reduceLT, Nat.reduceBEq, Int.reduceLE, Int.reduceLT, Int.reduceToNat, Int.reduceNeg, Int.reduceAdd, Int.reduceSub, Int.reduceMul, ↓reduceIte]
        exact ⟨by omega, i, ⟨by omega, hd⟩, by omega, by omega⟩

def cloneWG_enc : (List Wr) × (Bool) → List V := fun ⟨ws, f⟩ => [.c (.s (.list 2 (encs wrE ws) f))]
theorem cloneWG_inj : ∀ x y, cloneWG_enc x = cloneWG_enc y → x = y := by
  rintro ⟨ws, f⟩ ⟨ws2, f2⟩ h
  simp only [cloneWG_enc, List.cons.injEq, V.c.injEq, V.agg.injEq, C.s.injEq, S.list.injEq, S.str.injEq, S.int.injEq, S.bool.injEq, S.fn.injEq, S.cref.injEq, strE_inj, true_and, and_true, wrE_inj] at h
  simp_all
noncomputable def cloneWG : List V → Option (Nat × List (List S)) := specE cloneWG_enc (fun ⟨ws, f⟩ => ws.length < 4000000) (fun ⟨ws, f⟩ => (2, encs wrE ws))
theorem cloneWG_eq {ws : List Wr} {f : Bool} [Decidable (ws.length < 4000000)] : cloneWG [.c (.s (.list 2 (encs wrE ws) f))] = if ws.length < 4000000 then some ((2, encs wrE ws)) else none := specE_eq cloneWG_inj (ws, f)
theorem cloneWG_callf {ws : List Wr} {f : Bool} {m : Nat → Option Ab.Obj} {locs : List Nat} {d : Nat} {K : V → (Nat → Option Ab.Obj) → Prop} : callF cloneWG (some [.c (.s (.list 2 (encs wrE ws) f))]) m locs d K = ((ws.length < 4000000) ∧ m d = none ∧ K (.c (.own d ( encs wrE ws).length)) (upd (setAll m (sealL m locs)) d (some (.row 2 ( encs wrE ws))))) := by
  have := Classical.propDecidable (ws.length < 4000000)
  exact callF_of cloneWG_eq
attribute [go_sem] cloneWG_callf

def sc_slices_Clone_diskWrite : SC := .seq (.reg [⟨some 2, .mv, [.k (.c (.s (.list 0 [] true)))], none⟩]) (.seq (.seq (.reg [⟨some 3, .mv, [.t 0], none⟩,
⟨some 4, .isNil false, [.t 3], none⟩]) (.cond (.t 4) (.seq (.reg [⟨some 2, .mv, [.k (.c (.s (.list 0 [] true)))], none⟩]) (.ret)) (.skip))) (.seq (.reg [⟨some 5, .bslice 2 0 [.int .i64 0, .str []] [], [], none⟩,
⟨some 6, .mv, [.t 0], none⟩,
⟨some 7, .append false 2 24, [.t 5, .t 6], none⟩,
⟨some 2, .mv, [.t 7], none⟩]) (.ret)))
noncomputable def G_slices_Clone_diskWrite : FuncId → Ab.Spec := noS
theorem G_slices_Clone_diskWrite_ok : ∀ f, Contract Try.prog f (G_slices_Clone_diskWrite f) := (noS_ok _)
set_option maxHeartbeats 16000000 in
set_option maxRecDepth 1000000 in
set_option linter.unusedSimpArgs false in
set_option linter.unusedVariables false in
theorem contract_slices_Clone_diskWrite : Contract Try.prog 30 (fresh cloneWG) := by
  have hb : ∃ c, Try.f30.body = some c ∧ codeOk 8 c = true ∧ cCode Try.prog c = sc_slices_Clone_diskWrite := ⟨_, rfl, by kernel_rfl, by kernel_rfl⟩
  obtain ⟨c, hb1, hb2, hb3⟩ := hb
  refine contract_of (n := 1) G_slices_Clone_diskWrite_ok hB hD Try.func30 hb1 (by kernel_rfl) hb2 hb3 (rs := [.tmp 2]) (by kernel_rfl) (by decide) ?_ ?_
  · intro args x h
    obtain ⟨y, hy, -⟩ := Option.map_eq_some_iff.1 h
    obtain ⟨⟨ws, f⟩, rfl, -⟩ := specE_some hy
    rfl
  · intro args r hr
    obtain ⟨y, hy, rfl⟩ := Option.map_eq_some_iff.1 hr
    obtain ⟨⟨ws, f⟩, rfl, hc, rfl⟩ := specE_some hy
    clear hr hy
    have hc : ws.length < 4000000 := hc
    change awp _ _ (postQ _ (.fresh ((2, encs wrE ws)).1 ((2, encs wrE ws)).2)) _
    unfold cloneWG_enc sc_slices_Clone_diskWrite
    by_cases h : ws = []
    · subst h
      simp +contextual (maxSteps := 4000000) only [go_sem, Nat.reduceAdd, Nat.reduceSub, Nat.reduceMul, Nat.reduceEqDiff, Nat.reduceLeDiff, Nat.reduceLT, Nat.reduceBEq, Int.reduceLE, Int.reduceLT, Int.reduceToNat, Int.reduceNeg, Int.reduceAdd, Int.reduceSub, Int.reduceMul, ↓reduceIte]
    · simp +contextual (maxSteps := 4000000) only [h, go_sem, Nat.reduceAdd, Nat.reduceSub, Nat.reduceMul, Nat.reduceEqDiff, Nat.reduceLeDiff, Nat.reduceLT, Nat.reduceBEq, Int.reduceLE, Int.reduceLT, Int.reduceToNat, Int.reduceNeg, Int.reduceAdd, Int.reduceSub, Int.reduceMul, ↓reduceIte]
      omega

def cloneSG_enc : (List Bs) × (Bool) → List V := fun ⟨ws, f⟩ => [.c (.s (.list 1 (encs strE ws) f))]
theorem cloneSG_inj : ∀ x y, cloneSG_enc x = cloneSG_enc y → x = y := by
  rintro ⟨ws, f⟩ ⟨ws2, f2⟩ h
  simp only [cloneSG_enc, List.cons.injEq, V.c.injEq, V.agg.injEq, C.s.injEq, S.list.injEq, S.str.injEq, S.int.injEq, S.bool.injEq, S.fn.injEq, S.cref.injEq, strE_inj, true_and, and_true] at h
  simp_all
noncomputable def cloneSG : List V → Option (Nat × List (List S)) := specE cloneSG_enc (fun ⟨ws, f⟩ => ws.length < 4000000) (fun ⟨ws, f⟩ => (1, encs strE ws))
theorem cloneSG_eq {ws : List Bs} {f : Bool} [Decidable (ws.length < 4000000)] : cloneSG [.c (.s (.list 1 (encs strE ws) f))] = if ws.length < 4000000 then some ((1, encs strE ws)) else none := specE_eq cloneSG_inj (ws, f)
theorem cloneSG_callf {ws : List Bs} {f : Bool} {m : Nat → Option Ab.Obj} {locs : List Nat} {d : Nat} {K : V → (Nat → Option Ab.Obj) → Prop} : callF cloneSG (some [.c (.s (.list 1 (encs strE ws) f))]) m locs d K = ((ws.length < 4000000) ∧ m d = none ∧ K (.c (.own d ( encs strE ws).length)) (upd (setAll m (sealL m locs)) d (some (.row 1 ( encs strE ws))))) := by
  have := Classical.propDecidable (ws.length < 4000000)
  exact callF_of cloneSG_eq
attribute [go_sem] cloneSG_callf

def sc_slices_Clone_string : SC := .seq (.reg [⟨some 2, .mv, [.k (.c (.s (.list 0 [] true)))], none⟩]) (.seq (.seq (.reg [⟨some 3, .mv, [.t 0], none⟩,
⟨some 4, .isNil false, [.t 3], none⟩]) (.cond (.t 4) (.seq (.reg [⟨some 2, .mv, [.k (.c (.s (.list 0 [] true)))], none⟩]) (.ret)) (.skip))) (.seq (.reg [⟨some 5, .bslice 1 0 [.str []] [], [], none⟩,
⟨some 6, .mv, [.t 0], none⟩,
⟨some 7, .append false 1 16, [.t 5, .t 6], none⟩,
⟨some 2, .mv, [.t 7], none⟩]) (.ret)))
noncomputable def G_slices_Clone_string : FuncId → Ab.Spec := noS
theorem G_slices_Clone_string_ok : ∀ f, Contract Try.prog f (G_slices_Clone_string f) := (noS_ok _)
set_option maxHeartbeats 16000000 in
set_option maxRecDepth 1000000 in
set_option linter.unusedSimpArgs false in
set_option linter.unusedVariables false in
theorem contract_slices_Clone_string : Contract Try.prog 49 (fresh cloneSG) := by
  have hb : ∃ c, Try.f49.body = some c ∧ codeOk 8 c = true ∧ cCode Try.prog c = sc_slices_Clone_string := ⟨_, rfl, by kernel_rfl, by kernel_rfl⟩
  obtain ⟨c, hb1, hb2, hb3⟩ := hb
  refine contract_of (n := 1) G_slices_Clone_string_ok hB hD Try.func49 hb1 (by kernel_rfl) hb2 hb3 (rs := [.tmp 2]) (by kernel_rfl) (by decide) ?_ ?_
  · intro args x h
    obtain ⟨y, hy, -⟩ := Option.map_eq_some_iff.1 h
    obtain ⟨⟨ws, f⟩, rfl, -⟩ := specE_some hy
    rfl
  · intro args r hr
    obtain ⟨y, hy, rfl⟩ := Option.map_eq_some_iff.1 hr
    obtain ⟨⟨ws, f⟩, rfl, hc, rfl⟩ := specE_some hy
    clear hr hy
    have hc : ws.length < 4000000 := hc
    change awp _ _ (postQ _ (.fresh ((1, encs strE ws)).1 ((1, encs strE ws)).2)) _
    unfold cloneSG_enc sc_slices_Clone_string
    by_cases h : ws = []
    · subst h
      simp +contextual (maxSteps := 4000000) only [go_sem, Nat.reduceAdd, Nat.reduceSub, Nat.reduceMul, Nat.reduceEqDiff, Nat.reduceLeDiff, Nat.reduceLT, Nat.reduceBEq, Int.reduceLE, Int.reduceLT, Int.reduceToNat, Int.reduceNeg, Int.reduceAdd, Int.reduceSub, Int.reduceMul, ↓reduceIte]
    · simp +contextual (maxSteps := 4000000) only [h, go_sem, Nat.reduceAdd, Nat.reduceSub, Nat.reduceMul, Nat.reduceEqDiff, Nat.reduceLeDiff, Nat.reduceLT, Nat.reduceBEq, Int.reduceLE, Int.reduceLT, Int.reduceToNat, Int.reduceNeg, Int.reduceAdd, Int.reduceSub, Int.reduceMul, ↓reduceIte]
      omega

def putG_enc : (List Bs) × (List Wr) × (Bool) × (Bool) × (Int) × (Bs) → List V := fun ⟨ss, cs, f, g, a, t⟩ => [.agg [.s (.list 1 (encs strE ss) f), .s (.list 2 (encs wrE cs) g)], .agg [.s (.int .i64 a), .s (.str t)]]
theorem putG_inj : ∀ x y, putG_enc x = putG_enc y → x = y := by
  rintro ⟨ss, cs, f, g, a, t⟩ ⟨ss2, cs2, f2, g2, a2, t2⟩ h
  simp only [putG_enc, List.cons.injEq, V.c.injEq, V.agg.injEq, C.s.injEq, S.list.injEq, S.str.injEq, S.int.injEq, S.bool.injEq, S.fn.injEq, S.cref.injEq, strE_inj, true_and, and_true, wrE_inj] at h
  simp_all
noncomputable def putG : List V → Option (V) := specE putG_enc (fun ⟨ss, cs, f, g, a, t⟩ => ss.length < 4000000 ∧ cs.length < 4000000) (fun ⟨ss, cs, f, g, a, t⟩ => .tup [.inr [.s (.list 1 (encs strE ((putW ⟨ss, cs⟩ ⟨a, t⟩).1).sectors) false), .s (.list 2 (encs wrE ((putW ⟨ss, cs⟩ ⟨a, t⟩).1).cache) false)], .inl (.s (.int .i64 (putW ⟨ss, cs⟩ ⟨a, t⟩).2))])
theorem putG_eq {ss : List Bs} {cs : List Wr} {f : Bool} {g : Bool} {a : Int} {t : Bs} [Decidable (ss.length < 4000000 ∧ cs.length < 4000000)] : putG [.agg [.s (.list 1 (encs strE ss) f), .s (.list 2 (encs wrE cs) g)], .agg [.s (.int .i64 a), .s (.str t)]] = if ss.length < 4000000 ∧ cs.length < 4000000 then some (.tup [.inr [.s (.list 1 (encs strE ((putW ⟨ss, cs⟩ ⟨a, t⟩).1).sectors) false), .s (.list 2 (encs wrE ((putW ⟨ss, cs⟩ ⟨a, t⟩).1).cache) false)], .inl (.s (.int .i64 (putW ⟨ss, cs⟩ ⟨a, t⟩).2))]) else none := specE_eq putG_inj (ss, cs, f, g, a, t)
theorem putG_call {ss : List Bs} {cs : List Wr} {f : Bool} {g : Bool} {a : Int} {t : Bs} {gt : Bool} {K : V → Prop} : callE putG [.agg [.s (.list 1 (encs strE ss) f), .s (.list 2 (encs wrE cs) g)], .agg [.s (.int .i64 a), .s (.str t)]] gt K = ((gt = true → ss.length < 4000000 ∧ cs.length < 4000000) ∧ bindV (ifV gt (.tup [.inr [.s (.list 1 (encs strE ((putW ⟨ss, cs⟩ ⟨a, t⟩).1).sectors) false), .s (.list 2 (encs wrE ((putW ⟨ss, cs⟩ ⟨a, t⟩).1).cache) false)], .inl (.s (.int .i64 (putW ⟨ss, cs⟩ ⟨a, t⟩).2))])) K) := by
  have := Classical.propDecidable (ss.length < 4000000 ∧ cs.length < 4000000)
  exact callE_of putG_eq
theorem putG_callo {ss : List Bs} {cs : List Wr} {f : Bool} {g : Bool} {a : Int} {t : Bs} {m : Nat → Option Ab.Obj} {locs : List Nat} {K : V → (Nat → Option Ab.Obj) → Prop} : callO putG (some [.agg [.s (.list 1 (encs strE ss) f), .s (.list 2 (encs wrE cs) g)], .agg [.s (.int .i64 a), .s (.str t)]]) m locs K = ((ss.length < 4000000 ∧ cs.length < 4000000) ∧ K (.tup [.inr [.s (.list 1 (encs strE ((putW ⟨ss, cs⟩ ⟨a, t⟩).1).sectors) false), .s (.list 2 (encs wrE ((putW ⟨ss, cs⟩ ⟨a, t⟩).1).cache) false)], .inl (.s (.int .i64 (putW ⟨ss, cs⟩ ⟨a, t⟩).2))]) (sealW m locs (.tup [.inr [.s (.list 1 (encs strE ((putW ⟨ss, cs⟩ ⟨a, t⟩).1).sectors) false), .s (.list 2 (encs wrE ((putW ⟨ss, cs⟩ ⟨a, t⟩).1).cache) false)], .inl (.s (.int .i64 (putW ⟨ss, cs⟩ ⟨a, t⟩).2))]))) := by
  have := Classical.propDecidable (ss.length < 4000000 ∧ cs.length < 4000000)
  exact callO_of putG_eq
attribute [go_sem] putG_call putG_callo

def sc_disk_Put : SC := .seq (.reg [⟨some 2, .box 2, [.t 0], none⟩,
⟨some 3, .box 2, [.t 1], none⟩,
⟨some 4, .alloc [.list 0 [] true, .list 0 [] true], [], none⟩,
⟨some 5, .mv, [.k (.c (.s (.int .i64 0)))], none⟩]) (.seq (.block 0 (.seq (.reg [⟨some 7, .load 2 true, [.t 2], none⟩,
⟨some 8, .call 17, [.t 7], none⟩,
⟨some 9, .not, [.t 8], none⟩,
⟨some 10, .mv, [.t 9], none⟩,
⟨some 11, .load 2 true, [.t 2], some (10, false)⟩,
⟨some 12, .load 2 true, [.t 3], some (10, false)⟩,
⟨some 13, .call 29, [.t 11, .t 12], some (10, false)⟩,
⟨some 14, .not, [.t 13], some (10, false)⟩,
⟨some 15, .pick, [.t 10, .k (.c (.s (.bool true))), .t 14], none⟩,
⟨some 6, .mv, [.t 15], none⟩]) (.cond (.t 6) (.seq (.reg [⟨some 16, .load 2 true, [.t 2], none⟩,
⟨none, .store 2 true, [.t 4, .t 16], none⟩,
⟨some 5, .mv, [.k (.c (.s (.int .i64 1)))], none⟩]) (.ret)) (.seq (.reg [⟨some 18, .fadr 1, [.t 2], none⟩,
⟨some 19, .load 1 false, [.t 18], none⟩,
⟨some 20, .len false, [.t 19], none⟩,
⟨some 21, .bin .geq, [.t 20, .k (.c (.s (.int .i64 700)))], none⟩,
⟨some 17, .mv, [.t 21], none⟩]) (.cond (.t 17) (.seq (.reg [⟨some 22, .load 2 true, [.t 2], none⟩,
⟨none, .store 2 true, [.t 4, .t 22], none⟩,
⟨some 5, .mv, [.k (.c (.s (.int .i64 10)))], none⟩]) (.ret)) (.skip)))))) (.seq (.regD [⟨some 23, .fadr 0, [.t 2], none⟩,
⟨some 24, .load 1 false, [.t 23], none⟩,
⟨some 25, .fadr 1, [.t 2], none⟩,
⟨some 26, .load 1 false, [.t 25], none⟩,
⟨some 27, .call 30, [.t 26], none⟩,
⟨some 28, .load 2 true, [.t 3], none⟩,
⟨some 29, .bslice 2 1 [.int .i64 0, .str []] [0], [.t 28], none⟩,
⟨some 30, .append false 2 24, [.t 27, .t 29], none⟩,
⟨some 31, .build [.list 0 [] true, .list 0 [] true] [(0, 1), (1, 1)], [.t 24, .t 30], none⟩,
⟨none, .store 2 true, [.t 4, .t 31], none⟩,
⟨some 5, .mv, [.k (.c (.s (.int .i64 0)))], none⟩] [(0, 4), (1, 4), (4, 5), (0, 6), (1, 6), (2, 6), (3, 6), (4, 6), (0, 7), (1, 7)]) (.ret)))
noncomputable def G_disk_Put : FuncId → Ab.Spec := addS (addS (addS (noS) 17 (plain rightG)) 29 (plain mayG)) 30 (fresh cloneWG)
theorem G_disk_Put_ok : ∀ f, Contract Try.prog f (G_disk_Put f) := (addS_ok (addS_ok (addS_ok (noS_ok _) contract_disk_Right) contract_disk_may) contract_slices_Clone_diskWrite)
theorem G16_17 : G_disk_Put 17 = plain rightG := by simp [G_disk_Put, addS]
theorem G16_29 : G_disk_Put 29 = plain mayG := by simp [G_disk_Put, addS]
theorem G16_30 : G_disk_Put 30 = fresh cloneWG := by simp [G_disk_Put, addS]
set_option maxHeartbeats 16000000 in
set_option maxRecDepth 1000000 in
set_option linter.unusedSimpArgs false in
set_option linter.unusedVariables false in
theorem contract_disk_Put : Contract Try.prog 16 (plain putG) := by
  have hb : ∃ c, Try.f16.body = some c ∧ codeOk 32 c = true ∧ cCode Try.prog c = sc_disk_Put := ⟨_, rfl, by kernel_rfl, by kernel_rfl⟩
  obtain ⟨c, hb1, hb2, hb3⟩ := hb
  refine contract_of (n := 2) G_disk_Put_ok hB hD Try.func16 hb1 (by kernel_rfl) hb2 hb3 (rs := [.cell 4 2 true, .tmp 5]) (by kernel_rfl) (by decide) ?_ ?_
  · intro args x h
    obtain ⟨y, hy, -⟩ := Option.map_eq_some_iff.1 h
    obtain ⟨⟨ss, cs, f, g, a, t⟩, rfl, -⟩ := specE_some hy
    rfl
  · intro args r hr
    obtain ⟨y, hy, rfl⟩ := Option.map_eq_some_iff.1 hr
    obtain ⟨⟨ss, cs, f, g, a, t⟩, rfl, hc, rfl⟩ := specE_some hy
    clear hr hy
    have hc : ss.length < 4000000 ∧ cs.length < 4000000 := hc
    change awp _ _ (postQ _ (.v (.tup [.inr [.s (.list 1 (encs strE ((putW ⟨ss, cs⟩ ⟨a, t⟩).1).sectors) false), .s (.list 2 (encs wrE ((putW ⟨ss, cs⟩ ⟨a, t⟩).1).cache) false)], .inl (.s (.int .i64 (putW ⟨ss, cs⟩ ⟨a, t⟩).2))]))) _
    unfold putG_enc sc_disk_Put
    cases hr : rightD ⟨ss, cs⟩ with
    | false =>
      have h1 : putW ⟨ss, cs⟩ ⟨a, t⟩ = (⟨ss, cs⟩, 1) := by unfold putW; rw [hr, if_neg (by simp)]
      simp +contextual (maxSteps := 4000000) only [↓exT_call G16_17, ↓exT_callo G16_17, ↓exT_calloG G16_17, ↓exT_call G16_29, ↓exT_callo G16_29, ↓exT_calloG G16_29, ↓exT_callf G16_30, hr, h1, hc.1, hc.2, go_sem, Nat.reduceAdd, Nat.reduceSub, Nat.reduceMul, Nat.reduceEqDiff, Nat.reduceLeDiff, Nat.reduceLT, Nat.reduceBEq, Int.reduceLE, Int.reduceLT, Int.reduceToNat, Int.reduceNeg, Int.reduceAdd, Int.reduceSub, Int.reduceMul, ↓reduceIte]
    | true =>
    cases hm : mayD ss.length ⟨a, t⟩ with
    | false =>
      have h1 : putW ⟨ss, cs⟩ ⟨a, t⟩ = (⟨ss, cs⟩, 1) := by unfold putW; rw [hm, if_neg (by simp)]
      simp +contextual (maxSteps := 4000000) only [↓exT_call G16_17, ↓exT_callo G16_17, ↓exT_calloG G16_17, ↓exT_call G16_29, ↓exT_callo G16_29, ↓exT_calloG G16_29, ↓exT_callf G16_30, hr, h1, hc.1, hc.2, hm, go_sem, Nat.reduceAdd, Nat.reduceSub, Nat.reduceMul, Nat.reduceEqDiff, Nat.reduceLeDiff, Nat.reduceLT, Nat.reduceBEq, Int.reduceLE, Int.reduceLT, Int.reduceToNat, Int.reduceNeg, Int.reduceAdd, Int.reduceSub, Int.reduceMul, ↓reduceIte]
    | true =>
    by_cases h7 : 700 ≤ cs.length
    · have h1 : putW ⟨ss, cs⟩ ⟨a, t⟩ = (⟨ss, cs⟩, 10) := by unfold putW; rw [if_pos ⟨hr, hm⟩, if_pos h7]
      have h7' : 700 ≤ (cs.length : Int) := by omega
      simp +contextual (maxSteps := 4000000) only [↓exT_call G16_17, ↓exT_callo G16_17, ↓exT_calloG G16_17, ↓exT_call G16_29, ↓exT_callo G16_29, ↓exT_calloG G16_29, ↓exT_callf G16_30, hr, h1, hc.1, hc.2, hm, h7', go_sem, Nat.reduceAdd, Nat.reduceSub, Nat.reduceMul, Nat.reduceEqDiff, Nat.reduceLeDiff, Nat.reduceLT, Nat.reduceBEq, Int.reduceLE, Int.reduceLT, Int.reduceToNat, Int.reduceNeg, Int.reduceAdd, Int.reduceSub, Int.reduceMul, ↓reduceIte]
    · have h1 : putW ⟨ss, cs⟩ ⟨a, t⟩ = (⟨ss, cs ++ [⟨a, t⟩]⟩, 0) := by unfold putW; rw [if_pos ⟨hr, hm⟩, if_neg h7]
      have h7' : ¬ 700 ≤ (cs.length : Int) := by omega
      simp +contextual (maxSteps := 4000000) only [↓exT_call G16_17, ↓exT_callo G16_17, ↓exT_calloG G16_17, ↓exT_call G16_29, ↓exT_callo G16_29, ↓exT_calloG G16_29, ↓exT_callf G16_30, hr, h1, hc.1, hc.2, hm, h7', go_sem, Nat.reduceAdd, Nat.reduceSub, Nat.reduceMul, Nat.reduceEqDiff, Nat.reduceLeDiff, Nat.reduceLT, Nat.reduceBEq, Int.reduceLE, Int.reduceLT, Int.reduceToNat, Int.reduceNeg, Int.reduceAdd, Int.reduceSub, Int.reduceMul, ↓reduceIte]
      exact ⟨by omega, by simp [encs, wrE]⟩

def idxIG_enc : (List Int) × (Nat) × (Bool) × (Int) → List V := fun ⟨l, k, f, n⟩ => [.c (.s (.list k (encs numE l) f)), .c (.s (.int .i64 n))]
theorem idxIG_inj : ∀ x y, idxIG_enc x = idxIG_enc y → x = y := by
  rintro ⟨l, k, f, n⟩ ⟨l2, k2, f2, n2⟩ h
  simp only [idxIG_enc, List.cons.injEq, V.c.injEq, V.agg.injEq, C.s.injEq, S.list.injEq, S.str.injEq, S.int.injEq, S.bool.injEq, S.fn.injEq, S.cref.injEq, strE_inj, true_and, and_true, numE_inj] at h
  simp_all
noncomputable def idxIG : List V → Option (V) := specE idxIG_enc (fun ⟨l, k, f, n⟩ => (k = 1 ∨ l = []) ∧ l.length < 4000000) (fun ⟨l, k, f, n⟩ => .c (.s (.int .i64 (findI (fun x => decide (n = x)) l))))
theorem idxIG_eq {l : List Int} {k : Nat} {f : Bool} {n : Int} [Decidable ((k = 1 ∨ l = []) ∧ l.length < 4000000)] : idxIG [.c (.s (.list k (encs numE l) f)), .c (.s (.int .i64 n))] = if (k = 1 ∨ l = []) ∧ l.length < 4000000 then some (.c (.s (.int .i64 (findI (fun x => decide (n = x)) l)))) else none := specE_eq idxIG_inj (l, k, f, n)
theorem idxIG_call {l : List Int} {k : Nat} {f : Bool} {n : Int} {gt : Bool} {K : V → Prop} : callE idxIG [.c (.s (.list k (encs numE l) f)), .c (.s (.int .i64 n))] gt K = ((gt = true → (k = 1 ∨ l = []) ∧ l.length < 4000000) ∧ bindV (ifV gt (.c (.s (.int .i64 (findI (fun x => decide (n = x)) l))))) K) := by
  have := Classical.propDecidable ((k = 1 ∨ l = []) ∧ l.length < 4000000)
  exact callE_of idxIG_eq
theorem idxIG_callo {l : List Int} {k : Nat} {f : Bool} {n : Int} {m : Nat → Option Ab.Obj} {locs : List Nat} {K : V → (Nat → Option Ab.Obj) → Prop} : callO idxIG (some [.c (.s (.list k (encs numE l) f)), .c (.s (.int .i64 n))]) m locs K = (((k = 1 ∨ l = []) ∧ l.length < 4000000) ∧ K (.c (.s (.int .i64 (findI (fun x => decide (n = x)) l)))) (sealW m locs (.c (.s (.int .i64 (findI (fun x => decide (n = x)) l)))))) := by
  have := Classical.propDecidable ((k = 1 ∨ l = []) ∧ l.length < 4000000)
  exact callO_of idxIG_eq
attribute [go_sem] idxIG_call idxIG_callo

def sc_slices_Index_int : SC := .seq (.reg [⟨some 4, .mv, [.k (.c (.s (.int .i64 0)))], none⟩]) (.seq (.seq (.reg [⟨some 6, .mv, [.t 0], none⟩,
⟨some 7, .len false, [.t 6], none⟩,
⟨some 8, .mv, [.k (.c (.s (.int .i64 0)))], none⟩]) (.block 0 (.loop (.seq (.reg [⟨some 9, .bin .lss, [.t 8, .t 7], none⟩]) (.seq (.cond (.t 9) (.skip) (.exit 0)) (.seq (.block 1 (.seq (.reg [⟨some 10, .mv, [.t 8], none⟩,
⟨some 5, .mv, [.t 10], none⟩]) (.seq (.reg [⟨some 11, .mv, [.t 1], none⟩,
⟨some 12, .mv, [.t 0], none⟩,
⟨some 13, .mv, [.t 5], none⟩,
⟨some 14, .iadr 1, [.t 12, .t 13], none⟩,
⟨some 15, .load 1 false, [.t 14], none⟩,
⟨some 16, .bin .eql, [.t 11, .t 15], none⟩]) (.cond (.t 16) (.seq (.reg [⟨some 17, .mv, [.t 5], none⟩,
⟨some 4, .mv, [.t 17], none⟩]) (.ret)) (.skip))))) (.reg [⟨some 18, .bin .add, [.t 8, .k (.c (.s (.int .i64 1)))], none⟩,
⟨some 8, .mv, [.t 18], none⟩]))))))) (.seq (.reg [⟨some 4, .mv, [.k (.c (.s (.int .i64 (-1))))], none⟩]) (.ret)))
noncomputable def G_slices_Index_int : FuncId → Ab.Spec := noS
theorem G_slices_Index_int_ok : ∀ f, Contract Try.prog f (G_slices_Index_int f) := (noS_ok _)
set_option maxHeartbeats 16000000 in
set_option maxRecDepth 1000000 in
set_option linter.unusedSimpArgs false in
set_option linter.unusedVariables false in
theorem contract_slices_Index_int : Contract Try.prog 50 (plain idxIG) := by
  have hb : ∃ c, Try.f50.body = some c ∧ codeOk 19 c = true ∧ cCode Try.prog c = sc_slices_Index_int := ⟨_, rfl, by kernel_rfl, by kernel_rfl⟩
  obtain ⟨c, hb1, hb2, hb3⟩ := hb
  refine contract_of (n := 2) G_slices_Index_int_ok hB hD Try.func50 hb1 (by kernel_rfl) hb2 hb3 (rs := [.tmp 4]) (by kernel_rfl) (by decide) ?_ ?_
  · intro args x h
    obtain ⟨y, hy, -⟩ := Option.map_eq_some_iff.1 h
    obtain ⟨⟨l, k, f, n⟩, rfl, -⟩ := specE_some hy
    rfl
  · intro args r hr
    obtain ⟨y, hy, rfl⟩ := Option.map_eq_some_iff.1 hr
    obtain ⟨⟨l, k, f, n⟩, rfl, hc, rfl⟩ := specE_some hy
    clear hr hy
    have hc : (k = 1 ∨ l = []) ∧ l.length < 4000000 := hc
    change awp _ _ (postQ _ (.v (.c (.s (.int .i64 (findI (fun x => decide (n = x)) l)))))) _
    unfold idxIG_enc sc_slices_Index_int
    simp +contextual (maxSteps := 4000000) only [go_sem, Nat.reduceAdd, Nat.reduceSub, Nat.reduceMul, Nat.reduceEqDiff, Nat.reduceLeDiff, Nat.reduceLT, Nat.reduceBEq, Int.reduceLE, Int.reduceLT, Int.reduceToNat, Int.reduceNeg, Int.reduceAdd, Int.reduceSub, Int.reduceMul, ↓reduceIte]
    refine awp_loopM (α := Nat) (fun i => [(0, .c (.s (.list k (encs numE l) f))), (1, .c (.s (.int .i64 n))), (7, .c (.s (.int .i64 l.length))), (8, .c (.s (.int .i64 i)))]) (fun _ => []) (fun i => l.length - i) 0 (fun i => i ≤ l.length ∧ ∀ x ∈ l.take i, ¬ n = x) ⟨Nat.zero_le _, by simp⟩ (Weak.meets ?_) ?_
    · simp +contextual (maxSteps := 4000000) only [go_sem, Nat.reduceAdd, Nat.reduceSub, Nat.reduceMul, Nat.reduceEqDiff, Nat.reduceLeDiff, Nat.reduceLT, Nat.reduceBEq, Int.reduceLE, Int.reduceLT, Int.reduceToNat, Int.reduceNeg, Int.reduceAdd, Int.reduceSub, Int.reduceMul, ↓reduceIte]
      simp
    rintro x ⟨hx, hw⟩
    by_cases hxl : x < l.length
    · have hxi : (x : Int) < (l.length : Int) := by omega
      have hk : k = 1 := hc.1.resolve_right (fun h => by rw [h] at hxl; simp at hxl)
      subst hk
      by_cases hp : n = l.getD x default
      · have := findI_hit (p := fun x : Int => decide (n = x)) hxl (fun s hs => by simp [hw s hs]) (decide_eq_true hp)
        simp +contextual (maxSteps := 4000000) only [hxi, this, go_sem, Nat.reduceAdd, Nat.reduceSub, Nat.reduceMul, Nat.reduceEqDiff, Nat.reduceLeDiff, Nat.reduceLT, Nat.reduceBEq, Int.reduceLE, Int.reduceLT, Int.reduceToNat, Int.reduceNeg, Int.reduceAdd, Int.reduceSub, Int.reduceMul, ↓reduceIte]
        refine ⟨fun h => ?_, fun h => absurd hp h⟩
        rw [← hp]; exact this.symm
      · simp +contextual (maxSteps := 4000000) only [hxi, hp, go_sem, Nat.reduceAdd, Nat.reduceSub, Nat.reduceMul, Nat.reduceEqDiff, Nat.reduceLeDiff, Nat.reduceLT, Nat.reduceBEq, Int.reduceLE, Int.reduceLT, Int.reduceToNat, Int.reduceNeg, Int.reduceAdd, Int.reduceSub, Int.reduceMul, ↓reduceIte]
        exact ⟨by omega, x + 1, ⟨by omega, take_all (Q := fun x => ¬ n = x) hxl hw hp⟩, by omega, by omega⟩
    · have hxi : ¬ (x : Int) < (l.length : Int) := by omega
      obtain rfl : x = l.length := by omega
      rw [List.take_length] at hw
      have := findI_end (p := fun x : Int => decide (n = x)) (l := l) (fun s hs => by simp [hw s hs])
      simp +contextual (maxSteps := 4000000) only [hxi, this, go_sem, Nat.reduceAdd, Nat.reduceSub, Nat.reduceMul, Nat.reduceEqDiff, Nat.reduceLeDiff, Nat.reduceLT, Nat.reduceBEq, Int.reduceLE, Int.reduceLT, Int.reduceToNat, Int.reduceNeg, Int.reduceAdd, Int.reduceSub, Int.reduceMul, ↓reduceIte]

def contIG_enc : (List Int) × (Nat) × (Bool) × (Int) → List V := fun ⟨l, k, f, n⟩ => [.c (.s (.list k (encs numE l) f)), .c (.s (.int .i64 n))]
theorem contIG_inj : ∀ x y, contIG_enc x = contIG_enc y → x = y := by
  rintro ⟨l, k, f, n⟩ ⟨l2, k2, f2, n2⟩ h
  simp only [contIG_enc, List.cons.injEq, V.c.injEq, V.agg.injEq, C.s.injEq, S.list.injEq, S.str.injEq, S.int.injEq, S.bool.injEq, S.fn.injEq, S.cref.injEq, strE_inj, true_and, and_true, numE_inj] at h
  simp_all
noncomputable def contIG : List V → Option (V) := specE contIG_enc (fun ⟨l, k, f, n⟩ => (k = 1 ∨ l = []) ∧ l.length < 4000000) (fun ⟨l, k, f, n⟩ => .c (.s (.bool (l.contains n))))
theorem contIG_eq {l : List Int} {k : Nat} {f : Bool} {n : Int} [Decidable ((k = 1 ∨ l = []) ∧ l.length < 4000000)] : contIG [.c (.s (.list k (encs numE l) f)), .c (.s (.int .i64 n))] = if (k = 1 ∨ l = []) ∧ l.length < 4000000 then some (.c (.s (.bool (l.contains n)))) else none := specE_eq contIG_inj (l, k, f, n)
theorem contIG_call {l : List Int} {k : Nat} {f : Bool} {n : Int} {gt : Bool} {K : V → Prop} : callE contIG [.c (.s (.list k (encs numE l) f)), .c (.s (.int .i64 n))] gt K = ((gt = true → (k = 1 ∨ l = []) ∧ l.length < 4000000) ∧ bindV (ifV gt (.c (.s (.bool (l.contains n))))) K) := by
  have := Classical.propDecidable ((k = 1 ∨ l = []) ∧ l.length < 4000000)
  exact callE_of contIG_eq
theorem contIG_callo {l : List Int} {k : Nat} {f : Bool} {n : Int} {m : Nat → Option Ab.Obj} {locs : List Nat} {K : V → (Nat → Option Ab.Obj) → Prop} : callO contIG (some [.c (.s (.list k (encs numE l) f)), .c (.s (.int .i64 n))]) m locs K = (((k = 1 ∨ l = []) ∧ l.length < 4000000) ∧ K (.c (.s (.bool (l.contains n)))) (sealW m locs (.c (.s (.bool (l.contains n)))))) := by
  have := Classical.propDecidable ((k = 1 ∨ l = []) ∧ l.length < 4000000)
  exact callO_of contIG_eq
attribute [go_sem] contIG_call contIG_callo

theorem cont_any (l : List Int) (n : Int) : (l.any fun x => decide (n = x)) = l.contains n := by
  rw [List.contains_eq_any_beq]; rfl
def sc_slices_Contains_int : SC := .seq (.reg [⟨some 4, .mv, [.k (.c (.s (.bool false)))], none⟩]) (.seq (.reg [⟨some 5, .mv, [.t 0], none⟩,
⟨some 6, .mv, [.t 1], none⟩,
⟨some 7, .call 50, [.t 5, .t 6], none⟩,
⟨some 8, .bin .geq, [.t 7, .k (.c (.s (.int .i64 0)))], none⟩,
⟨some 4, .mv, [.t 8], none⟩]) (.ret))
noncomputable def G_slices_Contains_int : FuncId → Ab.Spec := addS (noS) 50 (plain idxIG)
theorem G_slices_Contains_int_ok : ∀ f, Contract Try.prog f (G_slices_Contains_int f) := (addS_ok (noS_ok _) contract_slices_Index_int)
theorem G39_50 : G_slices_Contains_int 50 = plain idxIG := by simp [G_slices_Contains_int, addS]
set_option maxHeartbeats 16000000 in
set_option maxRecDepth 1000000 in
set_option linter.unusedSimpArgs false in
set_option linter.unusedVariables false in
theorem contract_slices_Contains_int : Contract Try.prog 39 (plain contIG) := by
  have hb : ∃ c, Try.f39.body = some c ∧ codeOk 9 c = true ∧ cCode Try.prog c = sc_slices_Contains_int := ⟨_, rfl, by kernel_rfl, by kernel_rfl⟩
  obtain ⟨c, hb1, hb2, hb3⟩ := hb
  refine contract_of (n := 2) G_slices_Contains_int_ok hB hD Try.func39 hb1 (by kernel_rfl) hb2 hb3 (rs := [.tmp 4]) (by kernel_rfl) (by decide) ?_ ?_
  · intro args x h
    obtain ⟨y, hy, -⟩ := Option.map_eq_some_iff.1 h
    obtain ⟨⟨l, k, f, n⟩, rfl, -⟩ := specE_some hy
    rfl
  · intro args r hr
    obtain ⟨y, hy, rfl⟩ := Option.map_eq_some_iff.1 hr
    obtain ⟨⟨l, k, f, n⟩, rfl, hc, rfl⟩ := specE_some hy
    clear hr hy
    have hc : (k = 1 ∨ l = []) ∧ l.length < 4000000 := hc
    change awp _ _ (postQ _ (.v (.c (.s (.bool (l.contains n)))))) _
    unfold contIG_enc sc_slices_Contains_int
    simp +contextual (maxSteps := 4000000) only [↓exT_call G39_50, ↓exT_callo G39_50, ↓exT_calloG G39_50, findI_ge, cont_any, go_sem, Nat.reduceAdd, Nat.reduceSub, Nat.reduceMul, Nat.reduceEqDiff, Nat.reduceLeDiff, Nat.reduceLT, Nat.reduceBEq, Int.reduceLE, Int.reduceLT, Int.reduceToNat, Int.reduceNeg, Int.reduceAdd, Int.reduceSub, Int.reduceMul, ↓reduceIte]
    exact hc

def sync1G : List V → Option V
  | [.c (.s (.int .i64 n))] => some (.c (.s (.bool true)))
  | _ => none
theorem sync1G_call {n : Int} {gt : Bool} {K : V → Prop} : callE sync1G [.c (.s (.int .i64 n))] gt K = bindV (ifV gt (.c (.s (.bool true)))) K := callE_all rfl
theorem sync1G_callo {n : Int} {m : Nat → Option Ab.Obj} {locs : List Nat} {K : V → (Nat → Option Ab.Obj) → Prop} : callO sync1G (some [.c (.s (.int .i64 n))]) m locs K = K (.c (.s (.bool true))) (sealW m locs (.c (.s (.bool true)))) := callO_all rfl
attribute [go_sem] sync1G_call sync1G_callo

def sc_disk_Sync_1 : SC := .seq (.reg [⟨some 2, .mv, [.k (.c (.s (.bool false)))], none⟩]) (.seq (.reg [⟨some 2, .mv, [.k (.c (.s (.bool true)))], none⟩]) (.ret))
noncomputable def G_disk_Sync_1 : FuncId → Ab.Spec := noS
theorem G_disk_Sync_1_ok : ∀ f, Contract Try.prog f (G_disk_Sync_1 f) := (noS_ok _)
set_option maxHeartbeats 16000000 in
set_option maxRecDepth 1000000 in
set_option linter.unusedSimpArgs false in
set_option linter.unusedVariables false in
theorem contract_disk_Sync_1 : Contract Try.prog 37 (plain sync1G) := by
  have hb : ∃ c, Try.f37.body = some c ∧ codeOk 3 c = true ∧ cCode Try.prog c = sc_disk_Sync_1 := ⟨_, rfl, by kernel_rfl, by kernel_rfl⟩
  obtain ⟨c, hb1, hb2, hb3⟩ := hb
  refine contract_of (n := 1) G_disk_Sync_1_ok hB hD Try.func37 hb1 (by kernel_rfl) hb2 hb3 (rs := [.tmp 2]) (by kernel_rfl) (by decide) ?_ ?_
  · intro args x h
    unfold plain sync1G at h
    split at h <;> simp_all
  · intro args r hr
    unfold plain sync1G at hr
    split at hr
    case h_2 => cases hr
    rename_i n
    simp only [Option.map_some, Option.some.injEq] at hr
    subst hr
    unfold sc_disk_Sync_1
    simp +contextual (maxSteps := 4000000) only [go_sem, Nat.reduceAdd, Nat.reduceSub, Nat.reduceMul, Nat.reduceEqDiff, Nat.reduceLeDiff, Nat.reduceLT, Nat.reduceBEq, Int.reduceLE, Int.reduceLT, Int.reduceToNat, Int.reduceNeg, Int.reduceAdd, Int.reduceSub, Int.reduceMul, ↓reduceIte]

def crash1G_enc : (Int) × (List Int) × (Nat) × (Bool) → List V := fun ⟨n, l, k, f⟩ => [.c (.s (.int .i64 n)), .c (.s (.cref [.list k (encs numE l) f]))]
theorem crash1G_inj : ∀ x y, crash1G_enc x = crash1G_enc y → x = y := by
  rintro ⟨n, l, k, f⟩ ⟨n2, l2, k2, f2⟩ h
  simp only [crash1G_enc, List.cons.injEq, V.c.injEq, V.agg.injEq, C.s.injEq, S.list.injEq, S.str.injEq, S.int.injEq, S.bool.injEq, S.fn.injEq, S.cref.injEq, strE_inj, true_and, and_true, numE_inj] at h
  simp_all
noncomputable def crash1G : List V → Option (V) := specE crash1G_enc (fun ⟨n, l, k, f⟩ => (k = 1 ∨ l = []) ∧ l.length < 4000000) (fun ⟨n, l, k, f⟩ => .c (.s (.bool (l.contains n))))
theorem crash1G_eq {n : Int} {l : List Int} {k : Nat} {f : Bool} [Decidable ((k = 1 ∨ l = []) ∧ l.length < 4000000)] : crash1G [.c (.s (.int .i64 n)), .c (.s (.cref [.list k (encs numE l) f]))] = if (k = 1 ∨ l = []) ∧ l.length < 4000000 then some (.c (.s (.bool (l.contains n)))) else none := specE_eq crash1G_inj (n, l, k, f)
theorem crash1G_call {n : Int} {l : List Int} {k : Nat} {f : Bool} {gt : Bool} {K : V → Prop} : callE crash1G [.c (.s (.int .i64 n)), .c (.s (.cref [.list k (encs numE l) f]))] gt K = ((gt = true → (k = 1 ∨ l = []) ∧ l.length < 4000000) ∧ bindV (ifV gt (.c (.s (.bool (l.contains n))))) K) := by
  have := Classical.propDecidable ((k = 1 ∨ l = []) ∧ l.length < 4000000)
  exact callE_of crash1G_eq
theorem crash1G_callo {n : Int} {l : List Int} {k : Nat} {f : Bool} {m : Nat → Option Ab.Obj} {locs : List Nat} {K : V → (Nat → Option Ab.Obj) → Prop} : callO crash1G (some [.c (.s (.int .i64 n)), .c (.s (.cref [.list k (encs numE l) f]))]) m locs K = (((k = 1 ∨ l = []) ∧ l.length < 4000000) ∧ K (.c (.s (.bool (l.contains n)))) (sealW m locs (.c (.s (.bool (l.contains n)))))) := by
  have := Classical.propDecidable ((k = 1 ∨ l = []) ∧ l.length < 4000000)
  exact callO_of crash1G_eq
attribute [go_sem] crash1G_call crash1G_callo

def sc_disk_Crash_1 : SC := .seq (.reg [⟨some 3, .mv, [.k (.c (.s (.bool false)))], none⟩]) (.seq (.reg [⟨some 4, .load 1 false, [.t 1], none⟩,
⟨some 5, .mv, [.t 0], none⟩,
⟨some 6, .call 39, [.t 4, .t 5], none⟩,
⟨some 3, .mv, [.t 6], none⟩]) (.ret))
noncomputable def G_disk_Crash_1 : FuncId → Ab.Spec := addS (noS) 39 (plain contIG)
theorem G_disk_Crash_1_ok : ∀ f, Contract Try.prog f (G_disk_Crash_1 f) := (addS_ok (noS_ok _) contract_slices_Contains_int)
theorem G38_39 : G_disk_Crash_1 39 = plain contIG := by simp [G_disk_Crash_1, addS]
set_option maxHeartbeats 16000000 in
set_option maxRecDepth 1000000 in
set_option linter.unusedSimpArgs false in
set_option linter.unusedVariables false in
theorem contract_disk_Crash_1 : Contract Try.prog 38 (plain crash1G) := by
  have hb : ∃ c, Try.f38.body = some c ∧ codeOk 7 c = true ∧ cCode Try.prog c = sc_disk_Crash_1 := ⟨_, rfl, by kernel_rfl, by kernel_rfl⟩
  obtain ⟨c, hb1, hb2, hb3⟩ := hb
  refine contract_of (n := 2) G_disk_Crash_1_ok hB hD Try.func38 hb1 (by kernel_rfl) hb2 hb3 (rs := [.tmp 3]) (by kernel_rfl) (by decide) ?_ ?_
  · intro args x h
    obtain ⟨y, hy, -⟩ := Option.map_eq_some_iff.1 h
    obtain ⟨⟨n, l, k, f⟩, rfl, -⟩ := specE_some hy
    rfl
  · intro args r hr
    obtain ⟨y, hy, rfl⟩ := Option.map_eq_some_iff.1 hr
    obtain ⟨⟨n, l, k, f⟩, rfl, hc, rfl⟩ := specE_some hy
    clear hr hy
    have hc : (k = 1 ∨ l = []) ∧ l.length < 4000000 := hc
    change awp _ _ (postQ _ (.v (.c (.s (.bool (l.contains n)))))) _
    unfold crash1G_enc sc_disk_Crash_1
    simp +contextual (maxSteps := 4000000) only [↓exT_call G38_39, ↓exT_callo G38_39, ↓exT_calloG G38_39, go_sem, Nat.reduceAdd, Nat.reduceSub, Nat.reduceMul, Nat.reduceEqDiff, Nat.reduceLeDiff, Nat.reduceLT, Nat.reduceBEq, Int.reduceLE, Int.reduceLT, Int.reduceToNat, Int.reduceNeg, Int.reduceAdd, Int.reduceSub, Int.reduceMul, ↓reduceIte]
    exact hc

inductive Kp where
  | all
  | some (keep : List Int) (k : Nat) (f : Bool)
def kpS : Kp → S
  | .all => .fn 37 []
  | .some keep k f => .fn 38 [.cref [.list k (encs numE keep) f]]
def kpP : Kp → Nat → Bool
  | .all => fun _ => true
  | .some keep _ _ => fun i => keep.contains (i : Int)
def kpOk : Kp → Prop
  | .all => True
  | .some keep k _ => (k = 1 ∨ keep = []) ∧ keep.length < 4000000
theorem kpS_inj {a b : Kp} : (kpS a = kpS b) = (a = b) := by
  cases a <;> cases b <;> simp [kpS, numE_inj]
  constructor <;> (rintro ⟨rfl, rfl, rfl⟩; exact ⟨rfl, rfl, rfl⟩)
theorem set_strE {l : List Bs} {i : Nat} {t : Bs} : (encs strE l).set i (.str t :: List.drop 1 ((encs strE l).getD i [])) = encs strE (l.set i t) := by
  by_cases h : i < l.length
  · rw [encs_getN h]
    simp only [strE, List.drop_succ_cons, List.drop_nil]
    exact (List.map_set (f := strE) (l := l) (i := i) (a := t)).symm
  · rw [List.set_eq_of_length_le (by simp [encs]; omega), List.set_eq_of_length_le (by omega)]
theorem cf_kp {m : Nat → Option Ab.Obj} {ks : List Nat} {a b : Kp} : CFit m ks (.s (kpS a)) (.s (kpS b)) = (a = b) := kpS_inj
attribute [go_sem] set_strE cf_kp
def doneG_enc : (List Bs) × (List Wr) × (Bool) × (Bool) × (Kp) → List V := fun ⟨ss, cs, f, g, kp⟩ => [.agg [.s (.list 1 (encs strE ss) f), .s (.list 2 (encs wrE cs) g)], .c (.s (kpS kp))]
theorem doneG_inj : ∀ x y, doneG_enc x = doneG_enc y → x = y := by
  rintro ⟨ss, cs, f, g, kp⟩ ⟨ss2, cs2, f2, g2, kp2⟩ h
  simp only [doneG_enc, List.cons.injEq, V.c.injEq, V.agg.injEq, C.s.injEq, S.list.injEq, S.str.injEq, S.int.injEq, S.bool.injEq, S.fn.injEq, S.cref.injEq, strE_inj, true_and, and_true, wrE_inj, kpS_inj] at h
  simp_all
noncomputable def doneG : List V → Option (V) := specE doneG_enc (fun ⟨ss, cs, f, g, kp⟩ => kpOk kp ∧ ss.length < 4000000 ∧ cs.length < 4000000) (fun ⟨ss, cs, f, g, kp⟩ => .agg [.s (.list 1 (encs strE (doneD (kpP kp) ⟨ss, cs⟩).sectors) false), .s (.list 2 (encs wrE (doneD (kpP kp) ⟨ss, cs⟩).cache) false)])
theorem doneG_eq {ss : List Bs} {cs : List Wr} {f : Bool} {g : Bool} {kp : Kp} [Decidable (kpOk kp ∧ ss.length < 4000000 ∧ cs.length < 4000000)] : doneG [.agg [.s (.list 1 (encs strE ss) f), .s (.list 2 (encs wrE cs) g)], .c (.s (kpS kp))] = if kpOk kp ∧ ss.length < 4000000 ∧ cs.length < 4000000 then some (.agg [.s (.list 1 (encs strE (doneD (kpP kp) ⟨ss, cs⟩).sectors) false), .s (.list 2 (encs wrE (doneD (kpP kp) ⟨ss, cs⟩).cache) false)]) else none := specE_eq doneG_inj (ss, cs, f, g, kp)
theorem doneG_call {ss : List Bs} {cs : List Wr} {f : Bool} {g : Bool} {kp : Kp} {gt : Bool} {K : V → Prop} : callE doneG [.agg [.s (.list 1 (encs strE ss) f), .s (.list 2 (encs wrE cs) g)], .c (.s (kpS kp))] gt K = ((gt = true → kpOk kp ∧ ss.length < 4000000 ∧ cs.length < 4000000) ∧ bindV (ifV gt (.agg [.s (.list 1 (encs strE (doneD (kpP kp) ⟨ss, cs⟩).sectors) false), .s (.list 2 (encs wrE (doneD (kpP kp) ⟨ss, cs⟩).cache) false)])) K) := by
  have := Classical.propDecidable (kpOk kp ∧ ss.length < 4000000 ∧ cs.length < 4000000)
  exact callE_of doneG_eq
theorem doneG_callo {ss : List Bs} {cs : List Wr} {f : Bool} {g : Bool} {kp : Kp} {m : Nat → Option Ab.Obj} {locs : List Nat} {K : V → (Nat → Option Ab.Obj) → Prop} : callO doneG (some [.agg [.s (.list 1 (encs strE ss) f), .s (.list 2 (encs wrE cs) g)], .c (.s (kpS kp))]) m locs K = ((kpOk kp ∧ ss.length < 4000000 ∧ cs.length < 4000000) ∧ K (.agg [.s (.list 1 (encs strE (doneD (kpP kp) ⟨ss, cs⟩).sectors) false), .s (.list 2 (encs wrE (doneD (kpP kp) ⟨ss, cs⟩).cache) false)]) (sealW m locs (.agg [.s (.list 1 (encs strE (doneD (kpP kp) ⟨ss, cs⟩).sectors) false), .s (.list 2 (encs wrE (doneD (kpP kp) ⟨ss, cs⟩).cache) false)]))) := by
  have := Classical.propDecidable (kpOk kp ∧ ss.length < 4000000 ∧ cs.length < 4000000)
  exact callO_of doneG_eq
attribute [go_sem] doneG_call doneG_callo

def sc_disk_done : SC := .seq (.reg [⟨some 2, .box 2, [.t 0], none⟩,
⟨some 4, .alloc [.list 0 [] true, .list 0 [] true], [], none⟩]) (.seq (.seq (.reg [⟨some 8, .load 2 true, [.t 2], none⟩,
⟨some 9, .call 17, [.t 8], none⟩,
⟨some 10, .not, [.t 9], none⟩]) (.cond (.t 10) (.seq (.reg [⟨some 11, .load 2 true, [.t 2], none⟩,
⟨none, .store 2 true, [.t 4, .t 11], none⟩]) (.ret)) (.skip))) (.seq (.reg [⟨some 12, .fadr 0, [.t 2], none⟩,
⟨some 13, .load 1 false, [.t 12], none⟩,
⟨some 14, .call 49, [.t 13], none⟩,
⟨some 15, .build [.list 0 [] true, .list 0 [] true] [(0, 1)], [.t 14], none⟩,
⟨some 5, .alloc [.list 0 [] true, .list 0 [] true], [], none⟩,
⟨none, .store 2 true, [.t 5, .t 15], none⟩]) (.seq (.seq (.reg [⟨some 16, .fadr 1, [.t 2], none⟩,
⟨some 17, .load 1 false, [.t 16], none⟩,
⟨some 18, .len false, [.t 17], none⟩,
⟨some 19, .mv, [.k (.c (.s (.int .i64 0)))], none⟩]) (.block 0 (.loop (.seq (.reg [⟨some 20, .bin .lss, [.t 19, .t 18], none⟩]) (.seq (.cond (.t 20) (.skip) (.exit 0)) (.seq (.block 1 (.seq (.reg [⟨some 21, .mv, [.t 19], none⟩,
⟨some 22, .iadr 2, [.t 17, .t 19], none⟩,
⟨some 23, .load 2 true, [.t 22], none⟩,
⟨some 7, .alloc [.int .i64 0, .str []], [], none⟩,
⟨some 6, .mv, [.t 21], none⟩,
⟨none, .store 2 true, [.t 7, .t 23], none⟩]) (.seq (.reg [⟨some 24, .mv, [.t 1], none⟩,
⟨some 25, .mv, [.t 6], none⟩,
⟨some 26, .callv, [.t 24, .t 25], none⟩]) (.cond (.t 26) (.reg [⟨some 27, .fadr 0, [.t 5], none⟩,
⟨some 28, .load 1 false, [.t 27], none⟩,
⟨some 29, .fadr 0, [.t 7], none⟩,
⟨some 30, .load 1 false, [.t 29], none⟩,
⟨some 31, .fadr 1, [.t 7], none⟩,
⟨some 32, .load 1 false, [.t 31], none⟩,
⟨some 33, .iadr 1, [.t 28, .t 30], none⟩,
⟨none, .store 1 false, [.t 33, .t 32], none⟩]) (.skip))))) (.reg [⟨some 34, .bin .add, [.t 19, .k (.c (.s (.int .i64 1)))], none⟩,
⟨some 19, .mv, [.t 34], none⟩]))))))) (.seq (.reg [⟨some 35, .load 2 true, [.t 5], none⟩,
⟨none, .store 2 true, [.t 4, .t 35], none⟩]) (.ret)))))
noncomputable def G_disk_done : FuncId → Ab.Spec := addS (addS (addS (addS (noS) 37 (plain sync1G)) 38 (plain crash1G)) 17 (plain rightG)) 49 (fresh cloneSG)
theorem G_disk_done_ok : ∀ f, Contract Try.prog f (G_disk_done f) := (addS_ok (addS_ok (addS_ok (addS_ok (noS_ok _) contract_disk_Sync_1) contract_disk_Crash_1) contract_disk_Right) contract_slices_Clone_string)
theorem G36_37 : G_disk_done 37 = plain sync1G := by simp [G_disk_done, addS]
theorem G36_38 : G_disk_done 38 = plain crash1G := by simp [G_disk_done, addS]
theorem G36_17 : G_disk_done 17 = plain rightG := by simp [G_disk_done, addS]
theorem G36_49 : G_disk_done 49 = fresh cloneSG := by simp [G_disk_done, addS]
set_option maxHeartbeats 16000000 in
set_option maxRecDepth 1000000 in
set_option linter.unusedSimpArgs false in
set_option linter.unusedVariables false in
theorem contract_disk_done : Contract Try.prog 36 (plain doneG) := by
  have hb : ∃ c, Try.f36.body = some c ∧ codeOk 36 c = true ∧ cCode Try.prog c = sc_disk_done := ⟨_, rfl, by kernel_rfl, by kernel_rfl⟩
  obtain ⟨c, hb1, hb2, hb3⟩ := hb
  refine contract_of (n := 2) G_disk_done_ok hB hD Try.func36 hb1 (by kernel_rfl) hb2 hb3 (rs := [.cell 4 2 true]) (by kernel_rfl) (by decide) ?_ ?_
  · intro args x h
    obtain ⟨y, hy, -⟩ := Option.map_eq_some_iff.1 h
    obtain ⟨⟨ss, cs, f, g, kp⟩, rfl, -⟩ := specE_some hy
    rfl
  · intro args r hr
    obtain ⟨y, hy, rfl⟩ := Option.map_eq_some_iff.1 hr
    obtain ⟨⟨ss, cs, f, g, kp⟩, rfl, hc, rfl⟩ := specE_some hy
    clear hr hy
    have hc : kpOk kp ∧ ss.length < 4000000 ∧ cs.length < 4000000 := hc
    change awp _ _ (postQ _ (.v (.agg [.s (.list 1 (encs strE (doneD (kpP kp) ⟨ss, cs⟩).sectors) false), .s (.list 2 (encs wrE (doneD (kpP kp) ⟨ss, cs⟩).cache) false)]))) _
    unfold doneG_enc sc_disk_done
    cases hr : rightD ⟨ss, cs⟩ with
    | false =>
      have h1 : doneD (kpP kp) ⟨ss, cs⟩ = ⟨ss, cs⟩ := by unfold doneD; rw [hr, if_neg (by simp)]
      simp +contextual (maxSteps := 4000000) only [↓exT_call G36_37, ↓exT_callo G36_37, ↓exT_calloG G36_37, exO_callv G36_37, ↓exT_call G36_38, ↓exT_callo G36_38, ↓exT_calloG G36_38, exO_callv G36_38, ↓exT_call G36_17, ↓exT_callo G36_17, ↓exT_calloG G36_17, exO_callv G36_17, ↓exT_callf G36_49, hr, h1, hc.2.1, hc.2.2, go_sem, Nat.reduceAdd, Nat.reduceSub, Nat.reduceMul, Nat.reduceEqDiff, Nat.reduceLeDiff, Nat.reduceLT, Nat.reduceBEq, Int.reduceLE, Int.reduceLT, Int.reduceToNat, Int.reduceNeg, Int.reduceAdd, Int.reduceSub, Int.reduceMul, ↓reduceIte]
    | true =>
    have h1 : doneD (kpP kp) ⟨ss, cs⟩ = ⟨applyW ss (keptP (kpP kp) 0 cs), []⟩ := by unfold doneD; rw [hr]; rfl
    obtain ⟨-, -, -, q4, q5⟩ := (right_iff _).1 hr
    simp +contextual (maxSteps := 4000000) only [↓exT_call G36_37, ↓exT_callo G36_37, ↓exT_calloG G36_37, exO_callv G36_37, ↓exT_call G36_38, ↓exT_callo G36_38, ↓exT_calloG G36_38, exO_callv G36_38, ↓exT_call G36_17, ↓exT_callo G36_17, ↓exT_calloG G36_17, exO_callv G36_17, ↓exT_callf G36_49, hr, h1, hc.2.1, hc.2.2, go_sem, Nat.reduceAdd, Nat.reduceSub, Nat.reduceMul, Nat.reduceEqDiff, Nat.reduceLeDiff, Nat.reduceLT, Nat.reduceBEq, Int.reduceLE, Int.reduceLT, Int.reduceToNat, Int.reduceNeg, Int.reduceAdd, Int.reduceSub, Int.reduceMul, ↓reduceIte]
    refine awp_loopM (α := Nat) (fun i => [(1, .c (.s (kpS kp))), (4, .c (.ptr 4 0)), (5, .c (.ptr 5 0)), (17, .c (.s (.list 2 (encs wrE cs) g))), (18, .c (.s (.int .i64 cs.length))), (19, .c (.s (.int .i64 i)))])
      (fun i => [(4, .box [.s (.list 0 [] true), .s (.list 0 [] true)]), (5, .box [.own 14 ss.length, .s (.list 0 [] true)]), (14, .row 1 (encs strE (applyW ss (keptP (kpP kp) 0 (cs.take i)))))]) (fun i => cs.length - i) 0 (fun i => i ≤ cs.length) (Nat.zero_le _) (Weak.meets ?_) ?_
    · simp +contextual (maxSteps := 4000000) only [↓exT_call G36_37, ↓exT_callo G36_37, ↓exT_calloG G36_37, exO_callv G36_37, ↓exT_call G36_38, ↓exT_callo G36_38, ↓exT_calloG G36_38, exO_callv G36_38, ↓exT_call G36_17, ↓exT_callo G36_17, ↓exT_calloG G36_17, exO_callv G36_17, ↓exT_callf G36_49, go_sem, Nat.reduceAdd, Nat.reduceSub, Nat.reduceMul, Nat.reduceEqDiff, Nat.reduceLeDiff, Nat.reduceLT, Nat.reduceBEq, Int.reduceLE, Int.reduceLT, Int.reduceToNat, Int.reduceNeg, Int.reduceAdd, Int.reduceSub, Int.reduceMul, ↓reduceIte]
      simp [keptP, applyW]
    intro x hx
    by_cases hxl : x < cs.length
    · have hxi : (x : Int) < (cs.length : Int) := by omega
      have hm : 0 ≤ (cs.getD x default).loc ∧ (cs.getD x default).loc < ss.length ∧ (cs.getD x default).data.length = 32 := (may_iff _ _).1 (q5 _ (mem_getD hxl))
      have hl := applyW_len (keptP (kpP kp) 0 (cs.take x)) ss
      have hk := keptP_take (kpP kp) cs x hxl
      have ht : applyW ss (keptP (kpP kp) 0 (cs.take (x + 1))) = if kpP kp x = true then (applyW ss (keptP (kpP kp) 0 (cs.take x))).set (cs.getD x default).loc.toNat (cs.getD x default).data else applyW ss (keptP (kpP kp) 0 (cs.take x)) := by
        rw [hk, applyW_append]
        split <;> rfl
      cases kp with
      | all =>
        simp +contextual (maxSteps := 4000000) only [↓exT_call G36_37, ↓exT_callo G36_37, ↓exT_calloG G36_37, exO_callv G36_37, ↓exT_call G36_38, ↓exT_callo G36_38, ↓exT_calloG G36_38, exO_callv G36_38, ↓exT_call G36_17, ↓exT_callo G36_17, ↓exT_calloG G36_17, exO_callv G36_17, ↓exT_callf G36_49, hxi, kpS, hl, go_sem, Nat.reduceAdd, Nat.reduceSub, Nat.reduceMul, Nat.reduceEqDiff, Nat.reduceLeDiff, Nat.reduceLT, Nat.reduceBEq, Int.reduceLE, Int.reduceLT, Int.reduceToNat, Int.reduceNeg, Int.reduceAdd, Int.reduceSub, Int.reduceMul, ↓reduceIte]
        refine ⟨⟨hm.1, hm.2.1⟩, by omega, by omega, x + 1, by omega, by omega, by omega, ?_⟩
        rw [ht]; rfl
      | some keep k f =>
        simp +contextual (maxSteps := 4000000) only [↓exT_call G36_37, ↓exT_callo G36_37, ↓exT_calloG G36_37, exO_callv G36_37, ↓exT_call G36_38, ↓exT_callo G36_38, ↓exT_calloG G36_38, exO_callv G36_38, ↓exT_call G36_17, ↓exT_callo G36_17, ↓exT_calloG G36_17, exO_callv G36_17, ↓exT_callf G36_49, hxi, kpS, hl, go_sem, Nat.reduceAdd, Nat.reduceSub, Nat.reduceMul, Nat.reduceEqDiff, Nat.reduceLeDiff, Nat.reduceLT, Nat.reduceBEq, Int.reduceLE, Int.reduceLT, Int.reduceToNat, Int.reduceNeg, Int.reduceAdd, Int.reduceSub, Int.reduceMul, ↓reduceIte]
        refine ⟨hc.1, fun h => ⟨⟨hm.1, hm.2.1⟩, by omega, by omega, x + 1, by omega, by omega, by omega, ?_⟩, fun h => ⟨by omega, x + 1, by omega, by omega, by omega, ?_⟩⟩
        · rw [ht, if_pos (by exact h)]
        · rw [ht, if_neg (by show ¬ (keep.contains (x : Int) = true); rw [h]; simp)]
    · have hxi : ¬ (x : Int) < (cs.length : Int) := by omega
      obtain rfl : x = cs.length := by omega
      have hl := applyW_len (keptP (kpP kp) 0 cs) ss
      rw [List.take_length]
      simp +contextual (maxSteps := 4000000) only [↓exT_call G36_37, ↓exT_callo G36_37, ↓exT_calloG G36_37, exO_callv G36_37, ↓exT_call G36_38, ↓exT_callo G36_38, ↓exT_calloG G36_38, exO_callv G36_38, ↓exT_call G36_17, ↓exT_callo G36_17, ↓exT_calloG G36_17, exO_callv G36_17, ↓exT_callf G36_49, hxi, hl, go_sem, Nat.reduceAdd, Nat.reduceSub, Nat.reduceMul, Nat.reduceEqDiff, Nat.reduceLeDiff, Nat.reduceLT, Nat.reduceBEq, Int.reduceLE, Int.reduceLT, Int.reduceToNat, Int.reduceNeg, Int.reduceAdd, Int.reduceSub, Int.reduceMul, ↓reduceIte]

end Go.Proofs.Ytcnemnehjpaggaa
