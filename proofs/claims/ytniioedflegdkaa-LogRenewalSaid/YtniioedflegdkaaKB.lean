/- K4 K5 -/
import Derived.Test.YtniioedflegdkaaKA
set_option linter.all false
/- The document's disk, and what the statements say with it. -/
namespace Go.Proofs.Ytniioedflegdkaa
open Go Go.Ab Go.Proofs Go.Fs
/-- So many writes are within what the machine reaches. -/
def fitC (n : Nat) : Prop := n * 24 ≤ 140737488351232
theorem fit_of {n : Nat} (h : n < 4000000) : fitC n = True := eq_true (by unfold fitC; omega)
attribute [go_sem] fit_of
def refG_enc : (List Bs) × (List Wr) × (Bool) × (Bool) → List V := fun ⟨ss, cs, f, g⟩ => [.agg [.s (.list 1 (encs strE ss) f), .s (.list 2 (encs wrE cs) g)]]
theorem refG_inj : ∀ x y, refG_enc x = refG_enc y → x = y := by
  rintro ⟨ss, cs, f, g⟩ ⟨ss2, cs2, f2, g2⟩ h
  simp only [refG_enc, List.cons.injEq, V.c.injEq, V.agg.injEq, C.s.injEq, S.list.injEq, S.str.injEq, S.int.injEq, S.bool.injEq, S.fn.injEq, S.cref.injEq, strE_inj, true_and, and_true, wrE_inj] at h
  simp_all
noncomputable def refG : List V → Option (V) := specE refG_enc (fun ⟨ss, cs, f, g⟩ => fitC cs.length) (fun ⟨ss, cs, f, g⟩ => .agg [.s (.list 1 (encs strE ((⟨ss, cs⟩ : Disk)).sectors) false), .s (.list 2 (encs wrE ((⟨ss, cs⟩ : Disk)).cache) false)])
theorem refG_eq {ss : List Bs} {cs : List Wr} {f : Bool} {g : Bool} [Decidable (fitC cs.length)] : refG [.agg [.s (.list 1 (encs strE ss) f), .s (.list 2 (encs wrE cs) g)]] = if fitC cs.length then some (.agg [.s (.list 1 (encs strE ((⟨ss, cs⟩ : Disk)).sectors) false), .s (.list 2 (encs wrE ((⟨ss, cs⟩ : Disk)).cache) false)]) else none := specE_eq refG_inj (ss, cs, f, g)
theorem refG_call {ss : List Bs} {cs : List Wr} {f : Bool} {g : Bool} {gt : Bool} {K : V → Prop} : callE refG [.agg [.s (.list 1 (encs strE ss) f), .s (.list 2 (encs wrE cs) g)]] gt K = ((gt = true → fitC cs.length) ∧ bindV (ifV gt (.agg [.s (.list 1 (encs strE ((⟨ss, cs⟩ : Disk)).sectors) false), .s (.list 2 (encs wrE ((⟨ss, cs⟩ : Disk)).cache) false)])) K) := by
  have := Classical.propDecidable (fitC cs.length)
  exact callE_of refG_eq
theorem refG_callo {ss : List Bs} {cs : List Wr} {f : Bool} {g : Bool} {m : Nat → Option Ab.Obj} {locs : List Nat} {K : V → (Nat → Option Ab.Obj) → Prop} : callO refG (some [.agg [.s (.list 1 (encs strE ss) f), .s (.list 2 (encs wrE cs) g)]]) m locs K = ((fitC cs.length) ∧ K (.agg [.s (.list 1 (encs strE ((⟨ss, cs⟩ : Disk)).sectors) false), .s (.list 2 (encs wrE ((⟨ss, cs⟩ : Disk)).cache) false)]) (sealW m locs (.agg [.s (.list 1 (encs strE ((⟨ss, cs⟩ : Disk)).sectors) false), .s (.list 2 (encs wrE ((⟨ss, cs⟩ : Disk)).cache) false)]))) := by
  have := Classical.propDecidable (fitC cs.length)
  exact callO_of refG_eq
attribute [go_sem] refG_call refG_callo

theorem wr_snoc {l : List Wr} {i : Nat} (h : i < l.length) : encs wrE (l.take i) ++ [[.int .i64 (l.getD i default).loc, .str (l.getD i default).data]] = encs wrE (l.take (i + 1)) := by
  rw [take_getD h, encs_append]; rfl
theorem op_snoc {l : List DOp} {i : Nat} (h : i < l.length) : encs opE (l.take i) ++ [[.bool (l.getD i default).sync, .int .i64 (l.getD i default).w.loc, .str (l.getD i default).w.data]] = encs opE (l.take (i + 1)) := by
  rw [take_getD h, encs_append]; rfl
def sc_law17_Ref : SC := .seq (.reg [⟨some 1, .box 2, [.t 0], none⟩,
⟨some 2, .alloc [.list 0 [] true, .list 0 [] true], [], none⟩]) (.seq (.reg [⟨some 7, .fadr 0, [.t 1], none⟩,
⟨some 8, .load 1 false, [.t 7], none⟩,
⟨some 9, .build [.list 0 [] true, .list 0 [] true] [(0, 1)], [.t 8], none⟩,
⟨some 3, .alloc [.list 0 [] true, .list 0 [] true], [], none⟩,
⟨none, .store 2 true, [.t 3, .t 9], none⟩]) (.seq (.reg [⟨some 4, .mv, [.k (.c (.s (.list 0 [] true)))], none⟩]) (.seq (.seq (.reg [⟨some 10, .fadr 1, [.t 1], none⟩,
⟨some 11, .load 1 false, [.t 10], none⟩,
⟨some 12, .len false, [.t 11], none⟩,
⟨some 13, .mv, [.k (.c (.s (.int .i64 0)))], none⟩]) (.block 0 (.loop (.seq (.reg [⟨some 14, .bin .lss, [.t 13, .t 12], none⟩]) (.seq (.cond (.t 14) (.skip) (.exit 0)) (.seq (.block 1 (.seq (.reg [⟨some 15, .iadr 2, [.t 11, .t 13], none⟩,
⟨some 16, .load 2 true, [.t 15], none⟩,
⟨some 6, .alloc [.int .i64 0, .str []], [], none⟩,
⟨none, .store 2 true, [.t 6, .t 16], none⟩]) (.reg [⟨some 17, .mv, [.t 4], none⟩,
⟨some 18, .load 2 true, [.t 6], none⟩,
⟨some 19, .bslice 2 1 [.int .i64 0, .str []] [0], [.t 18], none⟩,
⟨some 20, .append false 2 24, [.t 17, .t 19], none⟩,
⟨some 4, .mv, [.t 20], none⟩]))) (.reg [⟨some 21, .bin .add, [.t 13, .k (.c (.s (.int .i64 1)))], none⟩,
⟨some 13, .mv, [.t 21], none⟩]))))))) (.seq (.reg [⟨some 22, .mv, [.t 4], none⟩,
⟨some 23, .fadr 1, [.t 3], none⟩,
⟨none, .store 1 false, [.t 23, .t 22], none⟩]) (.seq (.reg [⟨some 24, .load 2 true, [.t 3], none⟩,
⟨none, .store 2 true, [.t 2, .t 24], none⟩]) (.ret))))))
noncomputable def G_law17_Ref : FuncId → Ab.Spec := noS
theorem G_law17_Ref_ok : ∀ f, Contract Try.prog f (G_law17_Ref f) := (noS_ok _)
set_option maxHeartbeats 16000000 in
set_option maxRecDepth 1000000 in
set_option linter.unusedSimpArgs false in
set_option linter.unusedVariables false in
theorem contract_law17_Ref : Contract Try.prog 13 (plain refG) := by
  have hb : ∃ c, Try.f13.body = some c ∧ codeOk 25 c = true ∧ cCode Try.prog c = sc_law17_Ref := ⟨_, rfl, by kernel_rfl, by kernel_rfl⟩
  obtain ⟨c, hb1, hb2, hb3⟩ := hb
  refine contract_of (n := 1) G_law17_Ref_ok hB hD Try.func13 hb1 (by kernel_rfl) hb2 hb3 (rs := [.cell 2 2 true]) (by kernel_rfl) (by decide) ?_ ?_
  · intro args x h
    obtain ⟨y, hy, -⟩ := Option.map_eq_some_iff.1 h
    obtain ⟨⟨ss, cs, f, g⟩, rfl, -⟩ := specE_some hy
    rfl
  · intro args r hr
    obtain ⟨y, hy, rfl⟩ := Option.map_eq_some_iff.1 hr
    obtain ⟨⟨ss, cs, f, g⟩, rfl, hc, rfl⟩ := specE_some hy
    clear hr hy
    have hc : fitC cs.length := hc
    change awp _ _ (postQ _ (.v (.agg [.s (.list 1 (encs strE ((⟨ss, cs⟩ : Disk)).sectors) false), .s (.list 2 (encs wrE ((⟨ss, cs⟩ : Disk)).cache) false)]))) _
    unfold refG_enc sc_law17_Ref
    have hc : cs.length * 24 ≤ 140737488351232 := hc
    simp +contextual (maxSteps := 4000000) only [go_sem, Nat.reduceAdd, Nat.reduceSub, Nat.reduceMul, Nat.reduceEqDiff, Nat.reduceLeDiff, Nat.reduceLT, Nat.reduceBEq, Int.reduceLE, Int.reduceLT, Int.reduceToNat, Int.reduceNeg, Int.reduceAdd, Int.reduceSub, Int.reduceMul, ↓reduceIte]
    refine awp_loopM (α := Nat) (fun i => [(2, .c (.ptr 2 0)), (3, .c (.ptr 3 0)), (4, .c (.own 4 i)), (11, .c (.s (.list 2 (encs wrE cs) g))), (12, .c (.s (.int .i64 cs.length))), (13, .c (.s (.int .i64 i)))])
      (fun i => [(2, .box [.s (.list 0 [] true), .s (.list 0 [] true)]), (3, .box [.s (.list 1 (encs strE ss) f), .s (.list 0 [] true)]), (4, .row 2 (encs wrE (cs.take i)))]) (fun i => cs.length - i) 0 (fun i => i ≤ cs.length) (Nat.zero_le _) (Weak.trans (Weak.nilSlot 4 4 2 rfl rfl) (Weak.meets ?_)) ?_
    · simp +contextual (maxSteps := 4000000) only [go_sem, Nat.reduceAdd, Nat.reduceSub, Nat.reduceMul, Nat.reduceEqDiff, Nat.reduceLeDiff, Nat.reduceLT, Nat.reduceBEq, Int.reduceLE, Int.reduceLT, Int.reduceToNat, Int.reduceNeg, Int.reduceAdd, Int.reduceSub, Int.reduceMul, ↓reduceIte]
      simp
    intro x hx
    have hl : (encs wrE (cs.take x)).length = x := by simp [encs]; omega
    by_cases hxl : x < cs.length
    · have hxi : (x : Int) < (cs.length : Int) := by omega
      simp +contextual (maxSteps := 4000000) only [hxi, hl, wr_snoc hxl, go_sem, Nat.reduceAdd, Nat.reduceSub, Nat.reduceMul, Nat.reduceEqDiff, Nat.reduceLeDiff, Nat.reduceLT, Nat.reduceBEq, Int.reduceLE, Int.reduceLT, Int.reduceToNat, Int.reduceNeg, Int.reduceAdd, Int.reduceSub, Int.reduceMul, ↓reduceIte]
      refine ⟨by omega, by omega, x + 1, ?_⟩
      simp
      omega
    · have hxi : ¬ (x : Int) < (cs.length : Int) := by omega
      obtain rfl : x = cs.length := by omega
      rw [List.take_length]
      simp +contextual (maxSteps := 4000000) only [hxi, go_sem, Nat.reduceAdd, Nat.reduceSub, Nat.reduceMul, Nat.reduceEqDiff, Nat.reduceLeDiff, Nat.reduceLT, Nat.reduceBEq, Int.reduceLE, Int.reduceLT, Int.reduceToNat, Int.reduceNeg, Int.reduceAdd, Int.reduceSub, Int.reduceMul, ↓reduceIte]

def refsG_enc : (List DOp) × (Bool) → List V := fun ⟨l, f⟩ => [.c (.s (.list 3 (encs opE l) f))]
theorem refsG_inj : ∀ x y, refsG_enc x = refsG_enc y → x = y := by
  rintro ⟨l, f⟩ ⟨l2, f2⟩ h
  simp only [refsG_enc, List.cons.injEq, V.c.injEq, V.agg.injEq, C.s.injEq, S.list.injEq, S.str.injEq, S.int.injEq, S.bool.injEq, S.fn.injEq, S.cref.injEq, strE_inj, true_and, and_true, opE_inj] at h
  simp_all
noncomputable def refsG : List V → Option (V) := specE refsG_enc (fun ⟨l, f⟩ => l.length < 4000000) (fun ⟨l, f⟩ => .c (.s (.list 3 (encs opE l) false)))
theorem refsG_eq {l : List DOp} {f : Bool} [Decidable (l.length < 4000000)] : refsG [.c (.s (.list 3 (encs opE l) f))] = if l.length < 4000000 then some (.c (.s (.list 3 (encs opE l) false))) else none := specE_eq refsG_inj (l, f)
theorem refsG_call {l : List DOp} {f : Bool} {gt : Bool} {K : V → Prop} : callE refsG [.c (.s (.list 3 (encs opE l) f))] gt K = ((gt = true → l.length < 4000000) ∧ bindV (ifV gt (.c (.s (.list 3 (encs opE l) false)))) K) := by
  have := Classical.propDecidable (l.length < 4000000)
  exact callE_of refsG_eq
theorem refsG_callo {l : List DOp} {f : Bool} {m : Nat → Option Ab.Obj} {locs : List Nat} {K : V → (Nat → Option Ab.Obj) → Prop} : callO refsG (some [.c (.s (.list 3 (encs opE l) f))]) m locs K = ((l.length < 4000000) ∧ K (.c (.s (.list 3 (encs opE l) false))) (sealW m locs (.c (.s (.list 3 (encs opE l) false))))) := by
  have := Classical.propDecidable (l.length < 4000000)
  exact callO_of refsG_eq
attribute [go_sem] refsG_call refsG_callo


def smallG_enc : (List Bs) × (List Wr) × (Bool) × (Bool) → List V := fun ⟨ss, cs, f, g⟩ => [.agg [.s (.list 1 (encs strE ss) f), .s (.list 2 (encs wrE cs) g)]]
theorem smallG_inj : ∀ x y, smallG_enc x = smallG_enc y → x = y := by
  rintro ⟨ss, cs, f, g⟩ ⟨ss2, cs2, f2, g2⟩ h
  simp only [smallG_enc, List.cons.injEq, V.c.injEq, V.agg.injEq, C.s.injEq, S.list.injEq, S.str.injEq, S.int.injEq, S.bool.injEq, S.fn.injEq, S.cref.injEq, strE_inj, true_and, and_true, wrE_inj] at h
  simp_all
noncomputable def smallG : List V → Option (V) := specE smallG_enc (fun ⟨ss, cs, f, g⟩ => True) (fun ⟨ss, cs, f, g⟩ => .c (.s (.bool (smallD ⟨ss, cs⟩))))
theorem smallG_eq {ss : List Bs} {cs : List Wr} {f : Bool} {g : Bool} [Decidable (True)] : smallG [.agg [.s (.list 1 (encs strE ss) f), .s (.list 2 (encs wrE cs) g)]] = if True then some (.c (.s (.bool (smallD ⟨ss, cs⟩)))) else none := specE_eq smallG_inj (ss, cs, f, g)
theorem smallG_call {ss : List Bs} {cs : List Wr} {f : Bool} {g : Bool} {gt : Bool} {K : V → Prop} : callE smallG [.agg [.s (.list 1 (encs strE ss) f), .s (.list 2 (encs wrE cs) g)]] gt K = bindV (ifV gt (.c (.s (.bool (smallD ⟨ss, cs⟩))))) K := callE_all (by rw [smallG_eq]; rfl)
theorem smallG_callo {ss : List Bs} {cs : List Wr} {f : Bool} {g : Bool} {m : Nat → Option Ab.Obj} {locs : List Nat} {K : V → (Nat → Option Ab.Obj) → Prop} : callO smallG (some [.agg [.s (.list 1 (encs strE ss) f), .s (.list 2 (encs wrE cs) g)]]) m locs K = K (.c (.s (.bool (smallD ⟨ss, cs⟩)))) (sealW m locs (.c (.s (.bool (smallD ⟨ss, cs⟩))))) := callO_all (by rw [smallG_eq]; rfl)
attribute [go_sem] smallG_call smallG_callo

def sc_ref17_Small : SC := .seq (.reg [⟨some 1, .box 2, [.t 0], none⟩,
⟨some 2, .mv, [.k (.c (.s (.bool false)))], none⟩]) (.seq (.seq (.reg [⟨some 5, .fadr 0, [.t 1], none⟩,
⟨some 6, .load 1 false, [.t 5], none⟩,
⟨some 7, .len false, [.t 6], none⟩,
⟨some 8, .bin .gtr, [.t 7, .k (.c (.s (.int .i64 320)))], none⟩,
⟨some 9, .mv, [.t 8], none⟩,
⟨some 10, .fadr 1, [.t 1], some (9, false)⟩,
⟨some 11, .load 1 false, [.t 10], some (9, false)⟩,
⟨some 12, .len false, [.t 11], some (9, false)⟩,
⟨some 13, .bin .gtr, [.t 12, .k (.c (.s (.int .i64 720)))], some (9, false)⟩,
⟨some 14, .pick, [.t 9, .k (.c (.s (.bool true))), .t 13], none⟩]) (.cond (.t 14) (.seq (.reg [⟨some 2, .mv, [.k (.c (.s (.bool false)))], none⟩]) (.ret)) (.skip))) (.seq (.seq (.reg [⟨some 3, .mv, [.k (.c (.s (.int .i64 0)))], none⟩]) (.block 0 (.loop (.seq (.seq (.reg [⟨some 15, .mv, [.t 3], none⟩,
⟨some 16, .fadr 0, [.t 1], none⟩,
⟨some 17, .load 1 false, [.t 16], none⟩,
⟨some 18, .len false, [.t 17], none⟩,
⟨some 19, .bin .lss, [.t 15, .t 18], none⟩]) (.cond (.t 19) (.skip) (.exit 0))) (.seq (.block 1 (.seq (.reg [⟨some 22, .fadr 0, [.t 1], none⟩,
⟨some 23, .load 1 false, [.t 22], none⟩,
⟨some 24, .mv, [.t 3], none⟩,
⟨some 25, .iadr 1, [.t 23, .t 24], none⟩,
⟨some 26, .load 1 false, [.t 25], none⟩,
⟨some 27, .len true, [.t 26], none⟩,
⟨some 28, .bin .gtr, [.t 27, .k (.c (.s (.int .i64 60)))], none⟩]) (.cond (.t 28) (.seq (.reg [⟨some 2, .mv, [.k (.c (.s (.bool false)))], none⟩]) (.ret)) (.skip)))) (.reg [⟨some 20, .mv, [.t 3], none⟩,
⟨some 21, .bin .add, [.t 20, .k (.c (.s (.int .i64 1)))], none⟩,
⟨some 3, .mv, [.t 21], none⟩])))))) (.seq (.seq (.reg [⟨some 4, .mv, [.k (.c (.s (.int .i64 0)))], none⟩]) (.block 2 (.loop (.seq (.seq (.reg [⟨some 29, .mv, [.t 4], none⟩,
⟨some 30, .fadr 1, [.t 1], none⟩,
⟨some 31, .load 1 false, [.t 30], none⟩,
⟨some 32, .len false, [.t 31], none⟩,
⟨some 33, .bin .lss, [.t 29, .t 32], none⟩]) (.cond (.t 33) (.skip) (.exit 2))) (.seq (.block 3 (.seq (.reg [⟨some 36, .fadr 1, [.t 1], none⟩,
⟨some 37, .load 1 false, [.t 36], none⟩,
⟨some 38, .mv, [.t 4], none⟩,
⟨some 39, .iadr 2, [.t 37, .t 38], none⟩,
⟨some 40, .fadr 1, [.t 39], none⟩,
⟨some 41, .load 1 false, [.t 40], none⟩,
⟨some 42, .len true, [.t 41], none⟩,
⟨some 43, .bin .gtr, [.t 42, .k (.c (.s (.int .i64 60)))], none⟩]) (.cond (.t 43) (.seq (.reg [⟨some 2, .mv, [.k (.c (.s (.bool false)))], none⟩]) (.ret)) (.skip)))) (.reg [⟨some 34, .mv, [.t 4], none⟩,
⟨some 35, .bin .add, [.t 34, .k (.c (.s (.int .i64 1)))], none⟩,
⟨some 4, .mv, [.t 35], none⟩])))))) (.seq (.reg [⟨some 2, .mv, [.k (.c (.s (.bool true)))], none⟩]) (.ret)))))
noncomputable def G_ref17_Small : FuncId → Ab.Spec := noS
theorem G_ref17_Small_ok : ∀ f, Contract Try.prog f (G_ref17_Small f) := (noS_ok _)
set_option maxHeartbeats 16000000 in
set_option maxRecDepth 1000000 in
set_option linter.unusedSimpArgs false in
set_option linter.unusedVariables false in
theorem contract_ref17_Small : Contract Try.prog 14 (plain smallG) := by
  have hb : ∃ c, Try.f14.body = some c ∧ codeOk 44 c = true ∧ cCode Try.prog c = sc_ref17_Small := ⟨_, rfl, by kernel_rfl, by kernel_rfl⟩
  obtain ⟨c, hb1, hb2, hb3⟩ := hb
  refine contract_of (n := 1) G_ref17_Small_ok hB hD Try.func14 hb1 (by kernel_rfl) hb2 hb3 (rs := [.tmp 2]) (by kernel_rfl) (by decide) ?_ ?_
  · intro args x h
    obtain ⟨y, hy, -⟩ := Option.map_eq_some_iff.1 h
    obtain ⟨⟨ss, cs, f, g⟩, rfl, -⟩ := specE_some hy
    rfl
  · intro args r hr
    obtain ⟨y, hy, rfl⟩ := Option.map_eq_some_iff.1 hr
    obtain ⟨⟨ss, cs, f, g⟩, rfl, hc, rfl⟩ := specE_some hy
    clear hr hy
    have hc : True := hc
    change awp _ _ (postQ _ (.v (.c (.s (.bool (smallD ⟨ss, cs⟩)))))) _
    unfold smallG_enc sc_ref17_Small
    by_cases h1 : ss.length ≤ 320 ∧ cs.length ≤ 720
    case neg =>
      have e : (decide (320 < (ss.length : Int)) || decide (720 < (cs.length : Int))) = true := by simp; omega
      have hs : smallD ⟨ss, cs⟩ = false := by
        unfold smallD
        by_cases h2 : ss.length ≤ 320
        · have h3 : ¬ cs.length ≤ 720 := fun h => h1 ⟨h2, h⟩
          simp [h3]
        · simp [h2]
      simp +contextual (maxSteps := 4000000) only [e, hs, go_sem, Nat.reduceAdd, Nat.reduceSub, Nat.reduceMul, Nat.reduceEqDiff, Nat.reduceLeDiff, Nat.reduceLT, Nat.reduceBEq, Int.reduceLE, Int.reduceLT, Int.reduceToNat, Int.reduceNeg, Int.reduceAdd, Int.reduceSub, Int.reduceMul, ↓reduceIte]
    have e : (decide (320 < (ss.length : Int)) || decide (720 < (cs.length : Int))) = false := by simp; omega
    have hs : smallD ⟨ss, cs⟩ = (ss.all (fun s => decide (s.length ≤ 60)) && cs.all (fun w => decide (w.data.length ≤ 60))) := by
      unfold smallD; simp [h1.1, h1.2]
    rw [hs]
    simp +contextual (maxSteps := 4000000) only [e, go_sem, Nat.reduceAdd, Nat.reduceSub, Nat.reduceMul, Nat.reduceEqDiff, Nat.reduceLeDiff, Nat.reduceLT, Nat.reduceBEq, Int.reduceLE, Int.reduceLT, Int.reduceToNat, Int.reduceNeg, Int.reduceAdd, Int.reduceSub, Int.reduceMul, ↓reduceIte]
    refine awp_loopM (α := Nat) (fun i => [(1, .c (.ptr 1 0)), (3, .c (.s (.int .i64 i)))]) (fun _ => [(1, .box [.s (.list 1 (encs strE ss) f), .s (.list 2 (encs wrE cs) g)])]) (fun i => ss.length - i) 0 (fun i => i ≤ ss.length ∧ ∀ s ∈ ss.take i, decide (s.length ≤ 60) = true) ⟨Nat.zero_le _, by simp⟩ (Weak.meets ?_) ?_
    · simp +contextual (maxSteps := 4000000) only [go_sem, Nat.reduceAdd, Nat.reduceSub, Nat.reduceMul, Nat.reduceEqDiff, Nat.reduceLeDiff, Nat.reduceLT, Nat.reduceBEq, Int.reduceLE, Int.reduceLT, Int.reduceToNat, Int.reduceNeg, Int.reduceAdd, Int.reduceSub, Int.reduceMul, ↓reduceIte]
      simp
    rintro x ⟨hx, hw⟩
    by_cases hxl : x < ss.length
    · have hxi : (x : Int) < (ss.length : Int) := by omega
      by_cases h6 : (ss.getD x default).length ≤ 60
      · have h6' : ¬ 60 < (((ss.getD x default).length : Nat) : Int) := by omega
        have ht := take_all hxl hw (decide_eq_true h6)
        simp only [decide_eq_true_eq] at ht
        simp +contextual (maxSteps := 4000000) only [hxi, h6', go_sem, Nat.reduceAdd, Nat.reduceSub, Nat.reduceMul, Nat.reduceEqDiff, Nat.reduceLeDiff, Nat.reduceLT, Nat.reduceBEq, Int.reduceLE, Int.reduceLT, Int.reduceToNat, Int.reduceNeg, Int.reduceAdd, Int.reduceSub, Int.reduceMul, ↓reduceIte]
        exact ⟨by omega, x + 1, ⟨by omega, ht⟩, by omega, by omega⟩
      · have h6' : 60 < (((ss.getD x default).length : Nat) : Int) := by omega
        have := all_no (p := fun s : Bs => decide (s.length ≤ 60)) hxl (by simpa using h6)
        simp +contextual (maxSteps := 4000000) only [hxi, h6', this, go_sem, Nat.reduceAdd, Nat.reduceSub, Nat.reduceMul, Nat.reduceEqDiff, Nat.reduceLeDiff, Nat.reduceLT, Nat.reduceBEq, Int.reduceLE, Int.reduceLT, Int.reduceToNat, Int.reduceNeg, Int.reduceAdd, Int.reduceSub, Int.reduceMul, ↓reduceIte]
    have hxi : ¬ (x : Int) < (ss.length : Int) := by omega
    obtain rfl : x = ss.length := by omega
    rw [List.take_length] at hw
    rw [all_yes hw]
    simp +contextual (maxSteps := 4000000) only [hxi, go_sem, Nat.reduceAdd, Nat.reduceSub, Nat.reduceMul, Nat.reduceEqDiff, Nat.reduceLeDiff, Nat.reduceLT, Nat.reduceBEq, Int.reduceLE, Int.reduceLT, Int.reduceToNat, Int.reduceNeg, Int.reduceAdd, Int.reduceSub, Int.reduceMul, ↓reduceIte]
    refine awp_loopM (α := Nat) (fun i => [(1, .c (.ptr 1 0)), (4, .c (.s (.int .i64 i)))]) (fun _ => [(1, .box [.s (.list 1 (encs strE ss) f), .s (.list 2 (encs wrE cs) g)])]) (fun i => cs.length - i) 0 (fun i => i ≤ cs.length ∧ ∀ w ∈ cs.take i, decide (w.data.length ≤ 60) = true) ⟨Nat.zero_le _, by simp⟩ (Weak.meets ?_) ?_
    · simp +contextual (maxSteps := 4000000) only [go_sem, Nat.reduceAdd, Nat.reduceSub, Nat.reduceMul, Nat.reduceEqDiff, Nat.reduceLeDiff, Nat.reduceLT, Nat.reduceBEq, Int.reduceLE, Int.reduceLT, Int.reduceToNat, Int.reduceNeg, Int.reduceAdd, Int.reduceSub, Int.reduceMul, ↓reduceIte]
      simp
    rintro y ⟨hy, hv⟩
    by_cases hyl : y < cs.length
    · have hyi : (y : Int) < (cs.length : Int) := by omega
      by_cases h6 : (cs.getD y default).data.length ≤ 60
      · have h6' : ¬ 60 < (((cs.getD y default).data.length : Nat) : Int) := by omega
        have ht := take_all hyl hv (decide_eq_true h6)
        simp only [decide_eq_true_eq] at ht
        simp +contextual (maxSteps := 4000000) only [hyi, h6', go_sem, Nat.reduceAdd, Nat.reduceSub, Nat.reduceMul, Nat.reduceEqDiff, Nat.reduceLeDiff, Nat.reduceLT, Nat.reduceBEq, Int.reduceLE, Int.reduceLT, Int.reduceToNat, Int.reduceNeg, Int.reduceAdd, Int.reduceSub, Int.reduceMul, ↓reduceIte]
        exact ⟨by omega, y + 1, ⟨by omega, ht⟩, by omega, by omega⟩
      · have h6' : 60 < (((cs.getD y default).data.length : Nat) : Int) := by omega
        have := all_no (p := fun w : Wr => decide (w.data.length ≤ 60)) hyl (by simpa using h6)
        simp +contextual (maxSteps := 4000000) only [hyi, h6', this, go_sem, Nat.reduceAdd, Nat.reduceSub, Nat.reduceMul, Nat.reduceEqDiff, Nat.reduceLeDiff, Nat.reduceLT, Nat.reduceBEq, Int.reduceLE, Int.reduceLT, Int.reduceToNat, Int.reduceNeg, Int.reduceAdd, Int.reduceSub, Int.reduceMul, ↓reduceIte]
    have hyi : ¬ (y : Int) < (cs.length : Int) := by omega
    obtain rfl : y = cs.length := by omega
    rw [List.take_length] at hv
    rw [all_yes hv]
    simp +contextual (maxSteps := 4000000) only [hyi, go_sem, Nat.reduceAdd, Nat.reduceSub, Nat.reduceMul, Nat.reduceEqDiff, Nat.reduceLeDiff, Nat.reduceLT, Nat.reduceBEq, Int.reduceLE, Int.reduceLT, Int.reduceToNat, Int.reduceNeg, Int.reduceAdd, Int.reduceSub, Int.reduceMul, ↓reduceIte]

def rRightG_enc : (List Bs) × (List Wr) × (Bool) × (Bool) → List V := fun ⟨ss, cs, f, g⟩ => [.agg [.s (.list 1 (encs strE ss) f), .s (.list 2 (encs wrE cs) g)]]
theorem rRightG_inj : ∀ x y, rRightG_enc x = rRightG_enc y → x = y := by
  rintro ⟨ss, cs, f, g⟩ ⟨ss2, cs2, f2, g2⟩ h
  simp only [rRightG_enc, List.cons.injEq, V.c.injEq, V.agg.injEq, C.s.injEq, S.list.injEq, S.str.injEq, S.int.injEq, S.bool.injEq, S.fn.injEq, S.cref.injEq, strE_inj, true_and, and_true, wrE_inj] at h
  simp_all
noncomputable def rRightG : List V → Option (V) := specE rRightG_enc (fun ⟨ss, cs, f, g⟩ => True) (fun ⟨ss, cs, f, g⟩ => .c (.s (.bool (rightD ⟨ss, cs⟩))))
theorem rRightG_eq {ss : List Bs} {cs : List Wr} {f : Bool} {g : Bool} [Decidable (True)] : rRightG [.agg [.s (.list 1 (encs strE ss) f), .s (.list 2 (encs wrE cs) g)]] = if True then some (.c (.s (.bool (rightD ⟨ss, cs⟩)))) else none := specE_eq rRightG_inj (ss, cs, f, g)
theorem rRightG_call {ss : List Bs} {cs : List Wr} {f : Bool} {g : Bool} {gt : Bool} {K : V → Prop} : callE rRightG [.agg [.s (.list 1 (encs strE ss) f), .s (.list 2 (encs wrE cs) g)]] gt K = bindV (ifV gt (.c (.s (.bool (rightD ⟨ss, cs⟩))))) K := callE_all (by rw [rRightG_eq]; rfl)
theorem rRightG_callo {ss : List Bs} {cs : List Wr} {f : Bool} {g : Bool} {m : Nat → Option Ab.Obj} {locs : List Nat} {K : V → (Nat → Option Ab.Obj) → Prop} : callO rRightG (some [.agg [.s (.list 1 (encs strE ss) f), .s (.list 2 (encs wrE cs) g)]]) m locs K = K (.c (.s (.bool (rightD ⟨ss, cs⟩)))) (sealW m locs (.c (.s (.bool (rightD ⟨ss, cs⟩))))) := callO_all (by rw [rRightG_eq]; rfl)
attribute [go_sem] rRightG_call rRightG_callo

def sc_ref17_Right : SC := .seq (.reg [⟨some 1, .box 2, [.t 0], none⟩,
⟨some 2, .mv, [.k (.c (.s (.bool false)))], none⟩]) (.seq (.seq (.reg [⟨some 6, .fadr 0, [.t 1], none⟩,
⟨some 7, .load 1 false, [.t 6], none⟩,
⟨some 8, .len false, [.t 7], none⟩,
⟨some 9, .bin .lss, [.t 8, .k (.c (.s (.int .i64 1)))], none⟩,
⟨some 10, .mv, [.t 9], none⟩,
⟨some 11, .fadr 0, [.t 1], some (10, false)⟩,
⟨some 12, .load 1 false, [.t 11], some (10, false)⟩,
⟨some 13, .len false, [.t 12], some (10, false)⟩,
⟨some 14, .bin .gtr, [.t 13, .k (.c (.s (.int .i64 300)))], some (10, false)⟩,
⟨some 15, .pick, [.t 10, .k (.c (.s (.bool true))), .t 14], none⟩,
⟨some 16, .mv, [.t 15], none⟩,
⟨some 17, .fadr 1, [.t 1], some (16, false)⟩,
⟨some 18, .load 1 false, [.t 17], some (16, false)⟩,
⟨some 19, .len false, [.t 18], some (16, false)⟩,
⟨some 20, .bin .gtr, [.t 19, .k (.c (.s (.int .i64 700)))], some (16, false)⟩,
⟨some 21, .pick, [.t 16, .k (.c (.s (.bool true))), .t 20], none⟩]) (.cond (.t 21) (.seq (.reg [⟨some 2, .mv, [.k (.c (.s (.bool false)))], none⟩]) (.ret)) (.skip))) (.seq (.seq (.reg [⟨some 3, .mv, [.k (.c (.s (.int .i64 0)))], none⟩]) (.block 0 (.loop (.seq (.seq (.reg [⟨some 22, .mv, [.t 3], none⟩,
⟨some 23, .fadr 0, [.t 1], none⟩,
⟨some 24, .load 1 false, [.t 23], none⟩,
⟨some 25, .len false, [.t 24], none⟩,
⟨some 26, .bin .lss, [.t 22, .t 25], none⟩]) (.cond (.t 26) (.skip) (.exit 0))) (.seq (.block 1 (.seq (.reg [⟨some 29, .fadr 0, [.t 1], none⟩,
⟨some 30, .load 1 false, [.t 29], none⟩,
⟨some 31, .mv, [.t 3], none⟩,
⟨some 32, .iadr 1, [.t 30, .t 31], none⟩,
⟨some 33, .load 1 false, [.t 32], none⟩,
⟨some 34, .len true, [.t 33], none⟩,
⟨some 35, .bin .neq, [.t 34, .k (.c (.s (.int .i64 32)))], none⟩]) (.cond (.t 35) (.seq (.reg [⟨some 2, .mv, [.k (.c (.s (.bool false)))], none⟩]) (.ret)) (.skip)))) (.reg [⟨some 27, .mv, [.t 3], none⟩,
⟨some 28, .bin .add, [.t 27, .k (.c (.s (.int .i64 1)))], none⟩,
⟨some 3, .mv, [.t 28], none⟩])))))) (.seq (.seq (.reg [⟨some 4, .mv, [.k (.c (.s (.int .i64 0)))], none⟩]) (.block 2 (.loop (.seq (.seq (.reg [⟨some 36, .mv, [.t 4], none⟩,
⟨some 37, .fadr 1, [.t 1], none⟩,
⟨some 38, .load 1 false, [.t 37], none⟩,
⟨some 39, .len false, [.t 38], none⟩,
⟨some 40, .bin .lss, [.t 36, .t 39], none⟩]) (.cond (.t 40) (.skip) (.exit 2))) (.seq (.block 3 (.seq (.reg [⟨some 43, .fadr 1, [.t 1], none⟩,
⟨some 44, .load 1 false, [.t 43], none⟩,
⟨some 45, .mv, [.t 4], none⟩,
⟨some 46, .iadr 2, [.t 44, .t 45], none⟩,
⟨some 47, .load 2 true, [.t 46], none⟩,
⟨some 5, .alloc [.int .i64 0, .str []], [], none⟩,
⟨none, .store 2 true, [.t 5, .t 47], none⟩]) (.seq (.reg [⟨some 48, .fadr 0, [.t 5], none⟩,
⟨some 49, .load 1 false, [.t 48], none⟩,
⟨some 50, .bin .lss, [.t 49, .k (.c (.s (.int .i64 0)))], none⟩,
⟨some 51, .mv, [.t 50], none⟩,
⟨some 52, .fadr 0, [.t 5], some (51, false)⟩,
⟨some 53, .load 1 false, [.t 52], some (51, false)⟩,
⟨some 54, .fadr 0, [.t 1], some (51, false)⟩,
⟨some 55, .load 1 false, [.t 54], some (51, false)⟩,
⟨some 56, .len false, [.t 55], some (51, false)⟩,
⟨some 57, .bin .geq, [.t 53, .t 56], some (51, false)⟩,
⟨some 58, .pick, [.t 51, .k (.c (.s (.bool true))), .t 57], none⟩,
⟨some 59, .mv, [.t 58], none⟩,
⟨some 60, .fadr 1, [.t 5], some (59, false)⟩,
⟨some 61, .load 1 false, [.t 60], some (59, false)⟩,
⟨some 62, .len true, [.t 61], some (59, false)⟩,
⟨some 63, .bin .neq, [.t 62, .k (.c (.s (.int .i64 32)))], some (59, false)⟩,
⟨some 64, .pick, [.t 59, .k (.c (.s (.bool true))), .t 63], none⟩]) (.cond (.t 64) (.seq (.reg [⟨some 2, .mv, [.k (.c (.s (.bool false)))], none⟩]) (.ret)) (.skip))))) (.reg [⟨some 41, .mv, [.t 4], none⟩,
⟨some 42, .bin .add, [.t 41, .k (.c (.s (.int .i64 1)))], none⟩,
⟨some 4, .mv, [.t 42], none⟩])))))) (.seq (.reg [⟨some 2, .mv, [.k (.c (.s (.bool true)))], none⟩]) (.ret)))))
noncomputable def G_ref17_Right : FuncId → Ab.Spec := noS
theorem G_ref17_Right_ok : ∀ f, Contract Try.prog f (G_ref17_Right f) := (noS_ok _)
set_option maxHeartbeats 16000000 in
set_option maxRecDepth 1000000 in
set_option linter.unusedSimpArgs false in
set_option linter.unusedVariables false in
theorem contract_ref17_Right : Contract Try.prog 45 (plain rRightG) := by
  have hb : ∃ c, Try.f45.body = some c ∧ codeOk 65 c = true ∧ cCode Try.prog c = sc_ref17_Right := ⟨_, rfl, by kernel_rfl, by kernel_rfl⟩
  obtain ⟨c, hb1, hb2, hb3⟩ := hb
  refine contract_of (n := 1) G_ref17_Right_ok hB hD Try.func45 hb1 (by kernel_rfl) hb2 hb3 (rs := [.tmp 2]) (by kernel_rfl) (by decide) ?_ ?_
  · intro args x h
    obtain ⟨y, hy, -⟩ := Option.map_eq_some_iff.1 h
    obtain ⟨⟨ss, cs, f, g⟩, rfl, -⟩ := specE_some hy
    rfl
  · intro args r hr
    obtain ⟨y, hy, rfl⟩ := Option.map_eq_some_iff.1 hr
    obtain ⟨⟨ss, cs, f, g⟩, rfl, hc, rfl⟩ := specE_some hy
    clear hr hy
    have hc : True := hc
    change awp _ _ (postQ _ (.v (.c (.s (.bool (rightD ⟨ss, cs⟩)))))) _
    unfold rRightG_enc sc_ref17_Right
    by_cases h1 : (1 ≤ ss.length ∧ ss.length ≤ 300) ∧ cs.length ≤ 700
    case neg =>
      have e : (decide ((ss.length : Int) < 1) || decide (300 < (ss.length : Int)) || decide (700 < (cs.length : Int))) = true := by simp; omega
      have hs : rightD ⟨ss, cs⟩ = false := by
        cases h : rightD ⟨ss, cs⟩ with
        | false => rfl
        | true =>
          obtain ⟨q1, q2, q3, -⟩ := (right_iff _).1 h
          exact absurd ⟨⟨q1, q2⟩, q3⟩ h1
      simp +contextual (maxSteps := 4000000) only [e, hs, go_sem, Nat.reduceAdd, Nat.reduceSub, Nat.reduceMul, Nat.reduceEqDiff, Nat.reduceLeDiff, Nat.reduceLT, Nat.reduceBEq, Int.reduceLE, Int.reduceLT, Int.reduceToNat, Int.reduceNeg, Int.reduceAdd, Int.reduceSub, Int.reduceMul, ↓reduceIte]
    have e : (decide ((ss.length : Int) < 1) || decide (300 < (ss.length : Int)) || decide (700 < (cs.length : Int))) = false := by simp; omega
    have hs : rightD ⟨ss, cs⟩ = (ss.all (fun s => decide (s.length = 32)) && cs.all (mayD ss.length)) := by
      unfold rightD; simp [h1.1.1, h1.1.2, h1.2]
    rw [hs]
    simp +contextual (maxSteps := 4000000) only [e, go_sem, Nat.reduceAdd, Nat.reduceSub, Nat.reduceMul, Nat.reduceEqDiff, Nat.reduceLeDiff, Nat.reduceLT, Nat.reduceBEq, Int.reduceLE, Int.reduceLT, Int.reduceToNat, Int.reduceNeg, Int.reduceAdd, Int.reduceSub, Int.reduceMul, ↓reduceIte]
    refine awp_loopM (α := Nat) (fun i => [(1, .c (.ptr 1 0)), (3, .c (.s (.int .i64 i)))]) (fun _ => [(1, .box [.s (.list 1 (encs strE ss) f), .s (.list 2 (encs wrE cs) g)])]) (fun i => ss.length - i) 0 (fun i => i ≤ ss.length ∧ ∀ s ∈ ss.take i, decide (s.length = 32) = true) ⟨Nat.zero_le _, by simp⟩ (Weak.meets ?_) ?_
    · simp +contextual (maxSteps := 4000000) only [go_sem, Nat.reduceAdd, Nat.reduceSub, Nat.reduceMul, Nat.reduceEqDiff, Nat.reduceLeDiff, Nat.reduceLT, Nat.reduceBEq, Int.reduceLE, Int.reduceLT, Int.reduceToNat, Int.reduceNeg, Int.reduceAdd, Int.reduceSub, Int.reduceMul, ↓reduceIte]
      simp
    rintro x ⟨hx, hw⟩
    by_cases hxl : x < ss.length
    · have hxi : (x : Int) < (ss.length : Int) := by omega
      by_cases h6 : (ss.getD x default).length = 32
      · have h6' : (((ss.getD x default).length : Nat) : Int) = 32 := by omega
        have ht := take_all hxl hw (decide_eq_true h6)
        simp only [decide_eq_true_eq] at ht
        simp +contextual (maxSteps := 4000000) only [hxi, h6', go_sem, Nat.reduceAdd, Nat.reduceSub, Nat.reduceMul, Nat.reduceEqDiff, Nat.reduceLeDiff, Nat.reduceLT, Nat.reduceBEq, Int.reduceLE, Int.reduceLT, Int.reduceToNat, Int.reduceNeg, Int.reduceAdd, Int.reduceSub, Int.reduceMul, ↓reduceIte]
        exact ⟨by omega, x + 1, ⟨by omega, ht⟩, by omega, by omega⟩
      · have h6' : ¬ (((ss.getD x default).length : Nat) : Int) = 32 := by omega
        have := all_no (p := fun s : Bs => decide (s.length = 32)) hxl (by simpa using h6)
        simp +contextual (maxSteps := 4000000) only [hxi, h6', this, go_sem, Nat.reduceAdd, Nat.reduceSub, Nat.reduceMul, Nat.reduceEqDiff, Nat.reduceLeDiff, Nat.reduceLT, Nat.reduceBEq, Int.reduceLE, Int.reduceLT, Int.reduceToNat, Int.reduceNeg, Int.reduceAdd, Int.reduceSub, Int.reduceMul, ↓reduceIte]
    have hxi : ¬ (x : Int) < (ss.length : Int) := by omega
    obtain rfl : x = ss.length := by omega
    rw [List.take_length] at hw
    rw [all_yes hw]
    simp +contextual (maxSteps := 4000000) only [hxi, go_sem, Nat.reduceAdd, Nat.reduceSub, Nat.reduceMul, Nat.reduceEqDiff, Nat.reduceLeDiff, Nat.reduceLT, Nat.reduceBEq, Int.reduceLE, Int.reduceLT, Int.reduceToNat, Int.reduceNeg, Int.reduceAdd, Int.reduceSub, Int.reduceMul, ↓reduceIte]
    refine awp_loopM (α := Nat) (fun i => [(1, .c (.ptr 1 0)), (4, .c (.s (.int .i64 i)))]) (fun _ => [(1, .box [.s (.list 1 (encs strE ss) f), .s (.list 2 (encs wrE cs) g)])]) (fun i => cs.length - i) 0 (fun i => i ≤ cs.length ∧ ∀ w ∈ cs.take i, mayD ss.length w = true) ⟨Nat.zero_le _, by simp⟩ (Weak.meets ?_) ?_
    · simp +contextual (maxSteps := 4000000) only [go_sem, Nat.reduceAdd, Nat.reduceSub, Nat.reduceMul, Nat.reduceEqDiff, Nat.reduceLeDiff, Nat.reduceLT, Nat.reduceBEq, Int.reduceLE, Int.reduceLT, Int.reduceToNat, Int.reduceNeg, Int.reduceAdd, Int.reduceSub, Int.reduceMul, ↓reduceIte]
      simp
    rintro y ⟨hy, hv⟩
    by_cases hyl : y < cs.length
    · have hyi : (y : Int) < (cs.length : Int) := by omega
      have em : (decide ((cs.getD y default).loc < 0) || decide ((ss.length : Int) ≤ (cs.getD y default).loc) || !decide ((((cs.getD y default).data.length : Nat) : Int) = 32)) = !mayD ss.length (cs.getD y default) := by
        rw [Bool.eq_iff_iff]
        simp only [mayD, Bool.or_eq_true, Bool.not_eq_true', Bool.and_eq_false_iff, decide_eq_true_eq, decide_eq_false_iff_not]
        omega
      cases hm : mayD ss.length (cs.getD y default) with
      | true =>
        rw [hm] at em
        have ht := take_all hyl hv hm
        simp +contextual (maxSteps := 4000000) only [hyi, em, go_sem, Nat.reduceAdd, Nat.reduceSub, Nat.reduceMul, Nat.reduceEqDiff, Nat.reduceLeDiff, Nat.reduceLT, Nat.reduceBEq, Int.reduceLE, Int.reduceLT, Int.reduceToNat, Int.reduceNeg, Int.reduceAdd, Int.reduceSub, Int.reduceMul, ↓reduceIte]
        exact ⟨by omega, y + 1, ⟨by omega, ht⟩, by omega, by omega⟩
      | false =>
        rw [hm] at em
        have := all_no (p := mayD ss.length) hyl hm
        simp +contextual (maxSteps := 4000000) only [hyi, em, this, go_sem, Nat.reduceAdd, Nat.reduceSub, Nat.reduceMul, Nat.reduceEqDiff, Nat.reduceLeDiff, Nat.reduceLT, Nat.reduceBEq, Int.reduceLE, Int.reduceLT, Int.reduceToNat, Int.reduceNeg, Int.reduceAdd, Int.reduceSub, Int.reduceMul, ↓reduceIte]
    have hyi : ¬ (y : Int) < (cs.length : Int) := by omega
    obtain rfl : y = cs.length := by omega
    rw [List.take_length] at hv
    rw [all_yes hv]
    simp +contextual (maxSteps := 4000000) only [hyi, go_sem, Nat.reduceAdd, Nat.reduceSub, Nat.reduceMul, Nat.reduceEqDiff, Nat.reduceLeDiff, Nat.reduceLT, Nat.reduceBEq, Int.reduceLE, Int.reduceLT, Int.reduceToNat, Int.reduceNeg, Int.reduceAdd, Int.reduceSub, Int.reduceMul, ↓reduceIte]

def rReadG_enc : (List Bs) × (List Wr) × (Bool) × (Bool) × (Int) → List V := fun ⟨ss, cs, f, g, a⟩ => [.agg [.s (.list 1 (encs strE ss) f), .s (.list 2 (encs wrE cs) g)], .c (.s (.int .i64 a))]
theorem rReadG_inj : ∀ x y, rReadG_enc x = rReadG_enc y → x = y := by
  rintro ⟨ss, cs, f, g, a⟩ ⟨ss2, cs2, f2, g2, a2⟩ h
  simp only [rReadG_enc, List.cons.injEq, V.c.injEq, V.agg.injEq, C.s.injEq, S.list.injEq, S.str.injEq, S.int.injEq, S.bool.injEq, S.fn.injEq, S.cref.injEq, strE_inj, true_and, and_true, wrE_inj] at h
  simp_all
noncomputable def rReadG : List V → Option (V) := specE rReadG_enc (fun ⟨ss, cs, f, g, a⟩ => (0 ≤ a ∧ a < ss.length) ∧ cs.length < 4000000) (fun ⟨ss, cs, f, g, a⟩ => .c (.s (.str (getS ⟨ss, cs⟩ a.toNat))))
theorem rReadG_eq {ss : List Bs} {cs : List Wr} {f : Bool} {g : Bool} {a : Int} [Decidable ((0 ≤ a ∧ a < ss.length) ∧ cs.length < 4000000)] : rReadG [.agg [.s (.list 1 (encs strE ss) f), .s (.list 2 (encs wrE cs) g)], .c (.s (.int .i64 a))] = if (0 ≤ a ∧ a < ss.length) ∧ cs.length < 4000000 then some (.c (.s (.str (getS ⟨ss, cs⟩ a.toNat)))) else none := specE_eq rReadG_inj (ss, cs, f, g, a)
theorem rReadG_call {ss : List Bs} {cs : List Wr} {f : Bool} {g : Bool} {a : Int} {gt : Bool} {K : V → Prop} : callE rReadG [.agg [.s (.list 1 (encs strE ss) f), .s (.list 2 (encs wrE cs) g)], .c (.s (.int .i64 a))] gt K = ((gt = true → (0 ≤ a ∧ a < ss.length) ∧ cs.length < 4000000) ∧ bindV (ifV gt (.c (.s (.str (getS ⟨ss, cs⟩ a.toNat))))) K) := by
  have := Classical.propDecidable ((0 ≤ a ∧ a < ss.length) ∧ cs.length < 4000000)
  exact callE_of rReadG_eq
theorem rReadG_callo {ss : List Bs} {cs : List Wr} {f : Bool} {g : Bool} {a : Int} {m : Nat → Option Ab.Obj} {locs : List Nat} {K : V → (Nat → Option Ab.Obj) → Prop} : callO rReadG (some [.agg [.s (.list 1 (encs strE ss) f), .s (.list 2 (encs wrE cs) g)], .c (.s (.int .i64 a))]) m locs K = (((0 ≤ a ∧ a < ss.length) ∧ cs.length < 4000000) ∧ K (.c (.s (.str (getS ⟨ss, cs⟩ a.toNat)))) (sealW m locs (.c (.s (.str (getS ⟨ss, cs⟩ a.toNat)))))) := by
  have := Classical.propDecidable ((0 ≤ a ∧ a < ss.length) ∧ cs.length < 4000000)
  exact callO_of rReadG_eq
attribute [go_sem] rReadG_call rReadG_callo

def sc_ref17_Read : SC := .seq (.reg [⟨some 2, .box 2, [.t 0], none⟩,
⟨some 4, .mv, [.k (.c (.s (.str [])))], none⟩]) (.seq (.reg [⟨some 7, .fadr 0, [.t 2], none⟩,
⟨some 8, .load 1 false, [.t 7], none⟩,
⟨some 9, .mv, [.t 1], none⟩,
⟨some 10, .iadr 1, [.t 8, .t 9], none⟩,
⟨some 11, .load 1 false, [.t 10], none⟩,
⟨some 5, .mv, [.t 11], none⟩]) (.seq (.seq (.reg [⟨some 6, .mv, [.k (.c (.s (.int .i64 0)))], none⟩]) (.block 0 (.loop (.seq (.seq (.reg [⟨some 12, .mv, [.t 6], none⟩,
⟨some 13, .fadr 1, [.t 2], none⟩,
⟨some 14, .load 1 false, [.t 13], none⟩,
⟨some 15, .len false, [.t 14], none⟩,
⟨some 16, .bin .lss, [.t 12, .t 15], none⟩]) (.cond (.t 16) (.skip) (.exit 0))) (.seq (.block 1 (.seq (.reg [⟨some 19, .fadr 1, [.t 2], none⟩,
⟨some 20, .load 1 false, [.t 19], none⟩,
⟨some 21, .mv, [.t 6], none⟩,
⟨some 22, .iadr 2, [.t 20, .t 21], none⟩,
⟨some 23, .fadr 0, [.t 22], none⟩,
⟨some 24, .load 1 false, [.t 23], none⟩,
⟨some 25, .mv, [.t 1], none⟩,
⟨some 26, .bin .eql, [.t 24, .t 25], none⟩]) (.cond (.t 26) (.reg [⟨some 27, .fadr 1, [.t 2], none⟩,
⟨some 28, .load 1 false, [.t 27], none⟩,
⟨some 29, .mv, [.t 6], none⟩,
⟨some 30, .iadr 2, [.t 28, .t 29], none⟩,
⟨some 31, .fadr 1, [.t 30], none⟩,
⟨some 32, .load 1 false, [.t 31], none⟩,
⟨some 5, .mv, [.t 32], none⟩]) (.skip)))) (.reg [⟨some 17, .mv, [.t 6], none⟩,
⟨some 18, .bin .add, [.t 17, .k (.c (.s (.int .i64 1)))], none⟩,
⟨some 6, .mv, [.t 18], none⟩])))))) (.seq (.reg [⟨some 33, .mv, [.t 5], none⟩,
⟨some 4, .mv, [.t 33], none⟩]) (.ret))))
noncomputable def G_ref17_Read : FuncId → Ab.Spec := noS
theorem G_ref17_Read_ok : ∀ f, Contract Try.prog f (G_ref17_Read f) := (noS_ok _)
set_option maxHeartbeats 16000000 in
set_option maxRecDepth 1000000 in
set_option linter.unusedSimpArgs false in
set_option linter.unusedVariables false in
theorem contract_ref17_Read : Contract Try.prog 46 (plain rReadG) := by
  have hb : ∃ c, Try.f46.body = some c ∧ codeOk 34 c = true ∧ cCode Try.prog c = sc_ref17_Read := ⟨_, rfl, by kernel_rfl, by kernel_rfl⟩
  obtain ⟨c, hb1, hb2, hb3⟩ := hb
  refine contract_of (n := 2) G_ref17_Read_ok hB hD Try.func46 hb1 (by kernel_rfl) hb2 hb3 (rs := [.tmp 4]) (by kernel_rfl) (by decide) ?_ ?_
  · intro args x h
    obtain ⟨y, hy, -⟩ := Option.map_eq_some_iff.1 h
    obtain ⟨⟨ss, cs, f, g, a⟩, rfl, -⟩ := specE_some hy
    rfl
  · intro args r hr
    obtain ⟨y, hy, rfl⟩ := Option.map_eq_some_iff.1 hr
    obtain ⟨⟨ss, cs, f, g, a⟩, rfl, hc, rfl⟩ := specE_some hy
    clear hr hy
    have hc : (0 ≤ a ∧ a < ss.length) ∧ cs.length < 4000000 := hc
    change awp _ _ (postQ _ (.v (.c (.s (.str (getS ⟨ss, cs⟩ a.toNat)))))) _
    unfold rReadG_enc sc_ref17_Read
    obtain ⟨⟨h0, h1⟩, h2⟩ := hc
    obtain ⟨n, rfl⟩ : ∃ n : Nat, a = n := ⟨a.toNat, by omega⟩
    have hg : getS ⟨ss, cs⟩ n = lastW n cs (ss.getD n []) := rfl
    rw [show ((n : Int)).toNat = n from rfl, hg]
    simp +contextual (maxSteps := 4000000) only [h0, h1, go_sem, Nat.reduceAdd, Nat.reduceSub, Nat.reduceMul, Nat.reduceEqDiff, Nat.reduceLeDiff, Nat.reduceLT, Nat.reduceBEq, Int.reduceLE, Int.reduceLT, Int.reduceToNat, Int.reduceNeg, Int.reduceAdd, Int.reduceSub, Int.reduceMul, ↓reduceIte]
    refine awp_loopM (α := Nat) (fun i => [(1, .c (.s (.int .i64 n))), (2, .c (.ptr 2 0)), (5, .c (.s (.str (lastW n (cs.take i) (ss.getD n []))))), (6, .c (.s (.int .i64 i)))]) (fun _ => [(2, .box [.s (.list 1 (encs strE ss) f), .s (.list 2 (encs wrE cs) g)])]) (fun i => cs.length - i) 0 (fun i => i ≤ cs.length) (Nat.zero_le _) (Weak.meets ?_) ?_
    · simp +contextual (maxSteps := 4000000) only [go_sem, Nat.reduceAdd, Nat.reduceSub, Nat.reduceMul, Nat.reduceEqDiff, Nat.reduceLeDiff, Nat.reduceLT, Nat.reduceBEq, Int.reduceLE, Int.reduceLT, Int.reduceToNat, Int.reduceNeg, Int.reduceAdd, Int.reduceSub, Int.reduceMul, ↓reduceIte]
      simp [lastW]; rfl
    intro x hx
    by_cases hxl : x < cs.length
    · have hxi : (x : Int) < (cs.length : Int) := by omega
      have ht := lastW_take (a := n) hxl (ss.getD n [])
      by_cases he : (cs.getD x default).loc = n
      · rw [if_pos he] at ht
        simp +contextual (maxSteps := 4000000) only [hxi, he, go_sem, Nat.reduceAdd, Nat.reduceSub, Nat.reduceMul, Nat.reduceEqDiff, Nat.reduceLeDiff, Nat.reduceLT, Nat.reduceBEq, Int.reduceLE, Int.reduceLT, Int.reduceToNat, Int.reduceNeg, Int.reduceAdd, Int.reduceSub, Int.reduceMul, ↓reduceIte]
        exact ⟨by omega, x + 1, by omega, by omega, ht.symm, by omega⟩
      · rw [if_neg he] at ht
        simp +contextual (maxSteps := 4000000) only [hxi, he, go_sem, Nat.reduceAdd, Nat.reduceSub, Nat.reduceMul, Nat.reduceEqDiff, Nat.reduceLeDiff, Nat.reduceLT, Nat.reduceBEq, Int.reduceLE, Int.reduceLT, Int.reduceToNat, Int.reduceNeg, Int.reduceAdd, Int.reduceSub, Int.reduceMul, ↓reduceIte]
        exact ⟨by omega, x + 1, by omega, by omega, ht.symm, by omega⟩
    · have hxi : ¬ (x : Int) < (cs.length : Int) := by omega
      obtain rfl : x = cs.length := by omega
      rw [List.take_length]
      simp +contextual (maxSteps := 4000000) only [hxi, go_sem, Nat.reduceAdd, Nat.reduceSub, Nat.reduceMul, Nat.reduceEqDiff, Nat.reduceLeDiff, Nat.reduceLT, Nat.reduceBEq, Int.reduceLE, Int.reduceLT, Int.reduceToNat, Int.reduceNeg, Int.reduceAdd, Int.reduceSub, Int.reduceMul, ↓reduceIte]

def inG_enc : (List Int) × (Nat) × (Bool) × (Int) → List V := fun ⟨l, k, f, n⟩ => [.c (.s (.list k (encs numE l) f)), .c (.s (.int .i64 n))]
theorem inG_inj : ∀ x y, inG_enc x = inG_enc y → x = y := by
  rintro ⟨l, k, f, n⟩ ⟨l2, k2, f2, n2⟩ h
  simp only [inG_enc, List.cons.injEq, V.c.injEq, V.agg.injEq, C.s.injEq, S.list.injEq, S.str.injEq, S.int.injEq, S.bool.injEq, S.fn.injEq, S.cref.injEq, strE_inj, true_and, and_true, numE_inj] at h
  simp_all
noncomputable def inG : List V → Option (V) := specE inG_enc (fun ⟨l, k, f, n⟩ => (k = 1 ∨ l = []) ∧ l.length < 4000000) (fun ⟨l, k, f, n⟩ => .c (.s (.bool (l.contains n))))
theorem inG_eq {l : List Int} {k : Nat} {f : Bool} {n : Int} [Decidable ((k = 1 ∨ l = []) ∧ l.length < 4000000)] : inG [.c (.s (.list k (encs numE l) f)), .c (.s (.int .i64 n))] = if (k = 1 ∨ l = []) ∧ l.length < 4000000 then some (.c (.s (.bool (l.contains n)))) else none := specE_eq inG_inj (l, k, f, n)
theorem inG_call {l : List Int} {k : Nat} {f : Bool} {n : Int} {gt : Bool} {K : V → Prop} : callE inG [.c (.s (.list k (encs numE l) f)), .c (.s (.int .i64 n))] gt K = ((gt = true → (k = 1 ∨ l = []) ∧ l.length < 4000000) ∧ bindV (ifV gt (.c (.s (.bool (l.contains n))))) K) := by
  have := Classical.propDecidable ((k = 1 ∨ l = []) ∧ l.length < 4000000)
  exact callE_of inG_eq
theorem inG_callo {l : List Int} {k : Nat} {f : Bool} {n : Int} {m : Nat → Option Ab.Obj} {locs : List Nat} {K : V → (Nat → Option Ab.Obj) → Prop} : callO inG (some [.c (.s (.list k (encs numE l) f)), .c (.s (.int .i64 n))]) m locs K = (((k = 1 ∨ l = []) ∧ l.length < 4000000) ∧ K (.c (.s (.bool (l.contains n)))) (sealW m locs (.c (.s (.bool (l.contains n)))))) := by
  have := Classical.propDecidable ((k = 1 ∨ l = []) ∧ l.length < 4000000)
  exact callO_of inG_eq
attribute [go_sem] inG_call inG_callo


end Go.Proofs.Ytniioedflegdkaa

/- The document's disk, second part; what is fixed. -/
namespace Go.Proofs.Ytniioedflegdkaa
open Go Go.Ab Go.Proofs Go.Fs
theorem small_4 {ss : List Bs} {cs : List Wr} (h : smallD ⟨ss, cs⟩ = true) : ss.length < 4000000 ∧ cs.length < 4000000 := by
  obtain ⟨q1, q2, -⟩ := (small_iff _).1 h
  simp only at q1 q2
  omega
theorem str_snoc {l : List Bs} {t : Bs} : encs strE l ++ [[.str t]] = encs strE (l ++ [t]) := by rw [encs_append]; rfl
def rsyncD (d : Disk) : Disk := ⟨(List.range d.sectors.length).map (getS d), []⟩
theorem rsync_s {d : Disk} : (rsyncD d).sectors = (List.range d.sectors.length).map (getS d) := nr rfl
theorem rsync_c {d : Disk} : (rsyncD d).cache = [] := nr rfl
def rSyncG_enc : (List Bs) × (List Wr) × (Bool) × (Bool) → List V := fun ⟨ss, cs, f, g⟩ => [.agg [.s (.list 1 (encs strE ss) f), .s (.list 2 (encs wrE cs) g)]]
theorem rSyncG_inj : ∀ x y, rSyncG_enc x = rSyncG_enc y → x = y := by
  rintro ⟨ss, cs, f, g⟩ ⟨ss2, cs2, f2, g2⟩ h
  simp only [rSyncG_enc, List.cons.injEq, V.c.injEq, V.agg.injEq, C.s.injEq, S.list.injEq, S.str.injEq, S.int.injEq, S.bool.injEq, S.fn.injEq, S.cref.injEq, strE_inj, true_and, and_true, wrE_inj] at h
  simp_all
noncomputable def rSyncG : List V → Option (V) := specE rSyncG_enc (fun ⟨ss, cs, f, g⟩ => ss.length < 4000000 ∧ cs.length < 4000000) (fun ⟨ss, cs, f, g⟩ => .agg [.s (.list 1 (encs strE (rsyncD ⟨ss, cs⟩).sectors) false), .s (.list 2 (encs wrE (rsyncD ⟨ss, cs⟩).cache) false)])
theorem rSyncG_eq {ss : List Bs} {cs : List Wr} {f : Bool} {g : Bool} [Decidable (ss.length < 4000000 ∧ cs.length < 4000000)] : rSyncG [.agg [.s (.list 1 (encs strE ss) f), .s (.list 2 (encs wrE cs) g)]] = if ss.length < 4000000 ∧ cs.length < 4000000 then some (.agg [.s (.list 1 (encs strE (rsyncD ⟨ss, cs⟩).sectors) false), .s (.list 2 (encs wrE (rsyncD ⟨ss, cs⟩).cache) false)]) else none := specE_eq rSyncG_inj (ss, cs, f, g)
theorem rSyncG_call {ss : List Bs} {cs : List Wr} {f : Bool} {g : Bool} {gt : Bool} {K : V → Prop} : callE rSyncG [.agg [.s (.list 1 (encs strE ss) f), .s (.list 2 (encs wrE cs) g)]] gt K = ((gt = true → ss.length < 4000000 ∧ cs.length < 4000000) ∧ bindV (ifV gt (.agg [.s (.list 1 (encs strE (rsyncD ⟨ss, cs⟩).sectors) false), .s (.list 2 (encs wrE (rsyncD ⟨ss, cs⟩).cache) false)])) K) := by
  have := Classical.propDecidable (ss.length < 4000000 ∧ cs.length < 4000000)
  exact callE_of rSyncG_eq
theorem rSyncG_callo {ss : List Bs} {cs : List Wr} {f : Bool} {g : Bool} {m : Nat → Option Ab.Obj} {locs : List Nat} {K : V → (Nat → Option Ab.Obj) → Prop} : callO rSyncG (some [.agg [.s (.list 1 (encs strE ss) f), .s (.list 2 (encs wrE cs) g)]]) m locs K = ((ss.length < 4000000 ∧ cs.length < 4000000) ∧ K (.agg [.s (.list 1 (encs strE (rsyncD ⟨ss, cs⟩).sectors) false), .s (.list 2 (encs wrE (rsyncD ⟨ss, cs⟩).cache) false)]) (sealW m locs (.agg [.s (.list 1 (encs strE (rsyncD ⟨ss, cs⟩).sectors) false), .s (.list 2 (encs wrE (rsyncD ⟨ss, cs⟩).cache) false)]))) := by
  have := Classical.propDecidable (ss.length < 4000000 ∧ cs.length < 4000000)
  exact callO_of rSyncG_eq
attribute [go_sem] rSyncG_call rSyncG_callo

def sc_ref17_Sync : SC := .seq (.reg [⟨some 1, .box 2, [.t 0], none⟩,
⟨some 2, .alloc [.list 0 [] true, .list 0 [] true], [], none⟩]) (.seq (.reg [⟨some 3, .alloc [.list 0 [] true, .list 0 [] true], [], none⟩]) (.seq (.seq (.reg [⟨some 4, .mv, [.k (.c (.s (.int .i64 0)))], none⟩]) (.block 0 (.loop (.seq (.seq (.reg [⟨some 5, .mv, [.t 4], none⟩,
⟨some 6, .fadr 0, [.t 1], none⟩,
⟨some 7, .load 1 false, [.t 6], none⟩,
⟨some 8, .len false, [.t 7], none⟩,
⟨some 9, .bin .lss, [.t 5, .t 8], none⟩]) (.cond (.t 9) (.skip) (.exit 0))) (.seq (.block 1 (.regD [⟨some 12, .fadr 0, [.t 3], none⟩,
⟨some 13, .load 1 false, [.t 12], none⟩,
⟨some 14, .load 2 true, [.t 1], none⟩,
⟨some 15, .mv, [.t 4], none⟩,
⟨some 16, .call 46, [.t 14, .t 15], none⟩,
⟨some 17, .bslice 1 1 [.str []] [0], [.t 16], none⟩,
⟨some 18, .append false 1 16, [.t 13, .t 17], none⟩,
⟨some 19, .fadr 0, [.t 3], none⟩,
⟨none, .store 1 false, [.t 19, .t 18], none⟩] [(0, 4), (1, 4), (0, 5), (1, 5)])) (.reg [⟨some 10, .mv, [.t 4], none⟩,
⟨some 11, .bin .add, [.t 10, .k (.c (.s (.int .i64 1)))], none⟩,
⟨some 4, .mv, [.t 11], none⟩])))))) (.seq (.reg [⟨some 20, .load 2 true, [.t 3], none⟩,
⟨none, .store 2 true, [.t 2, .t 20], none⟩]) (.ret))))
noncomputable def G_ref17_Sync : FuncId → Ab.Spec := addS (noS) 46 (plain rReadG)
theorem G_ref17_Sync_ok : ∀ f, Contract Try.prog f (G_ref17_Sync f) := (addS_ok (noS_ok _) contract_ref17_Read)
theorem G66_46 : G_ref17_Sync 46 = plain rReadG := by simp [G_ref17_Sync, addS]
set_option maxHeartbeats 16000000 in
set_option maxRecDepth 1000000 in
set_option linter.unusedSimpArgs false in
set_option linter.unusedVariables false in
theorem contract_ref17_Sync : Contract Try.prog 66 (plain rSyncG) := by
  have hb : ∃ c, Try.f66.body = some c ∧ codeOk 21 c = true ∧ cCode Try.prog c = sc_ref17_Sync := ⟨_, rfl, by kernel_rfl, by kernel_rfl⟩
  obtain ⟨c, hb1, hb2, hb3⟩ := hb
  refine contract_of (n := 1) G_ref17_Sync_ok hB hD Try.func66 hb1 (by kernel_rfl) hb2 hb3 (rs := [.cell 2 2 true]) (by kernel_rfl) (by decide) ?_ ?_
  · intro args x h
    obtain ⟨y, hy, -⟩ := Option.map_eq_some_iff.1 h
    obtain ⟨⟨ss, cs, f, g⟩, rfl, -⟩ := specE_some hy
    rfl
  · intro args r hr
    obtain ⟨y, hy, rfl⟩ := Option.map_eq_some_iff.1 hr
    obtain ⟨⟨ss, cs, f, g⟩, rfl, hc, rfl⟩ := specE_some hy
    clear hr hy
    have hc : ss.length < 4000000 ∧ cs.length < 4000000 := hc
    change awp _ _ (postQ _ (.v (.agg [.s (.list 1 (encs strE (rsyncD ⟨ss, cs⟩).sectors) false), .s (.list 2 (encs wrE (rsyncD ⟨ss, cs⟩).cache) false)]))) _
    unfold rSyncG_enc sc_ref17_Sync
    simp +contextual (maxSteps := 4000000) only [↓exT_call G66_46, ↓exT_callo G66_46, ↓exT_calloG G66_46, go_sem, Nat.reduceAdd, Nat.reduceSub, Nat.reduceMul, Nat.reduceEqDiff, Nat.reduceLeDiff, Nat.reduceLT, Nat.reduceBEq, Int.reduceLE, Int.reduceLT, Int.reduceToNat, Int.reduceNeg, Int.reduceAdd, Int.reduceSub, Int.reduceMul, ↓reduceIte]
    refine awp_loopM (α := Nat) (fun i => [(1, .c (.ptr 1 0)), (2, .c (.ptr 2 0)), (3, .c (.ptr 3 0)), (4, .c (.s (.int .i64 i)))])
      (fun i => [(1, .box [.s (.list 1 (encs strE ss) f), .s (.list 2 (encs wrE cs) g)]), (2, .box [.s (.list 0 [] true), .s (.list 0 [] true)]), (3, .box [.own 100 i, .s (.list 0 [] true)]), (100, .row 1 (encs strE ((List.range i).map (getS ⟨ss, cs⟩))))]) (fun i => ss.length - i) 0 (fun i => i ≤ ss.length) (Nat.zero_le _) (Weak.trans (Weak.nilCell (k' := 0) (cells := [.s (.list 0 [] true), .s (.list 0 [] true)]) 3 0 100 1 rfl rfl rfl) (Weak.meets ?_)) ?_
    · simp +contextual (maxSteps := 4000000) only [↓exT_call G66_46, ↓exT_callo G66_46, ↓exT_calloG G66_46, List.set_cons_zero, go_sem, Nat.reduceAdd, Nat.reduceSub, Nat.reduceMul, Nat.reduceEqDiff, Nat.reduceLeDiff, Nat.reduceLT, Nat.reduceBEq, Int.reduceLE, Int.reduceLT, Int.reduceToNat, Int.reduceNeg, Int.reduceAdd, Int.reduceSub, Int.reduceMul, ↓reduceIte]
      simp [encs]
    intro x hx
    have hl : (encs strE ((List.range x).map (getS ⟨ss, cs⟩))).length = x := by simp [encs]
    by_cases hxl : x < ss.length
    · have hxi : (x : Int) < (ss.length : Int) := by omega
      have ht := range_snoc x (getS ⟨ss, cs⟩)
      simp +contextual (maxSteps := 4000000) only [↓exT_call G66_46, ↓exT_callo G66_46, ↓exT_calloG G66_46, hxi, hl, str_snoc, go_sem, Nat.reduceAdd, Nat.reduceSub, Nat.reduceMul, Nat.reduceEqDiff, Nat.reduceLeDiff, Nat.reduceLT, Nat.reduceBEq, Int.reduceLE, Int.reduceLT, Int.reduceToNat, Int.reduceNeg, Int.reduceAdd, Int.reduceSub, Int.reduceMul, ↓reduceIte]
      refine ⟨hc.2, by omega, by omega, x + 1, ?_⟩
      simp [ht]
      omega
    · have hxi : ¬ (x : Int) < (ss.length : Int) := by omega
      obtain rfl : x = ss.length := by omega
      simp +contextual (maxSteps := 4000000) only [↓exT_call G66_46, ↓exT_callo G66_46, ↓exT_calloG G66_46, hxi, rsync_s, rsync_c, go_sem, Nat.reduceAdd, Nat.reduceSub, Nat.reduceMul, Nat.reduceEqDiff, Nat.reduceLeDiff, Nat.reduceLT, Nat.reduceBEq, Int.reduceLE, Int.reduceLT, Int.reduceToNat, Int.reduceNeg, Int.reduceAdd, Int.reduceSub, Int.reduceMul, ↓reduceIte]
      simp [encs]

def rCrashG_enc : (List Bs) × (List Wr) × (Bool) × (Bool) × (List Int) × (Nat) × (Bool) → List V := fun ⟨ss, cs, f, g, keep, k, h⟩ => [.agg [.s (.list 1 (encs strE ss) f), .s (.list 2 (encs wrE cs) g)], .c (.s (.list k (encs numE keep) h))]
theorem rCrashG_inj : ∀ x y, rCrashG_enc x = rCrashG_enc y → x = y := by
  rintro ⟨ss, cs, f, g, keep, k, h⟩ ⟨ss2, cs2, f2, g2, keep2, k2, h2⟩ h
  simp only [rCrashG_enc, List.cons.injEq, V.c.injEq, V.agg.injEq, C.s.injEq, S.list.injEq, S.str.injEq, S.int.injEq, S.bool.injEq, S.fn.injEq, S.cref.injEq, strE_inj, true_and, and_true, wrE_inj, numE_inj] at h
  simp_all
noncomputable def rCrashG : List V → Option (V) := specE rCrashG_enc (fun ⟨ss, cs, f, g, keep, k, h⟩ => ((k = 1 ∨ keep = []) ∧ keep.length < 4000000) ∧ rightD ⟨ss, cs⟩ = true) (fun ⟨ss, cs, f, g, keep, k, h⟩ => .agg [.s (.list 1 (encs strE (crashD ⟨ss, cs⟩ keep).sectors) false), .s (.list 2 (encs wrE (crashD ⟨ss, cs⟩ keep).cache) false)])
theorem rCrashG_eq {ss : List Bs} {cs : List Wr} {f : Bool} {g : Bool} {keep : List Int} {k : Nat} {h : Bool} [Decidable (((k = 1 ∨ keep = []) ∧ keep.length < 4000000) ∧ rightD ⟨ss, cs⟩ = true)] : rCrashG [.agg [.s (.list 1 (encs strE ss) f), .s (.list 2 (encs wrE cs) g)], .c (.s (.list k (encs numE keep) h))] = if ((k = 1 ∨ keep = []) ∧ keep.length < 4000000) ∧ rightD ⟨ss, cs⟩ = true then some (.agg [.s (.list 1 (encs strE (crashD ⟨ss, cs⟩ keep).sectors) false), .s (.list 2 (encs wrE (crashD ⟨ss, cs⟩ keep).cache) false)]) else none := specE_eq rCrashG_inj (ss, cs, f, g, keep, k, h)
theorem rCrashG_call {ss : List Bs} {cs : List Wr} {f : Bool} {g : Bool} {keep : List Int} {k : Nat} {h : Bool} {gt : Bool} {K : V → Prop} : callE rCrashG [.agg [.s (.list 1 (encs strE ss) f), .s (.list 2 (encs wrE cs) g)], .c (.s (.list k (encs numE keep) h))] gt K = ((gt = true → ((k = 1 ∨ keep = []) ∧ keep.length < 4000000) ∧ rightD ⟨ss, cs⟩ = true) ∧ bindV (ifV gt (.agg [.s (.list 1 (encs strE (crashD ⟨ss, cs⟩ keep).sectors) false), .s (.list 2 (encs wrE (crashD ⟨ss, cs⟩ keep).cache) false)])) K) := by
  have := Classical.propDecidable (((k = 1 ∨ keep = []) ∧ keep.length < 4000000) ∧ rightD ⟨ss, cs⟩ = true)
  exact callE_of rCrashG_eq
theorem rCrashG_callo {ss : List Bs} {cs : List Wr} {f : Bool} {g : Bool} {keep : List Int} {k : Nat} {h : Bool} {m : Nat → Option Ab.Obj} {locs : List Nat} {K : V → (Nat → Option Ab.Obj) → Prop} : callO rCrashG (some [.agg [.s (.list 1 (encs strE ss) f), .s (.list 2 (encs wrE cs) g)], .c (.s (.list k (encs numE keep) h))]) m locs K = ((((k = 1 ∨ keep = []) ∧ keep.length < 4000000) ∧ rightD ⟨ss, cs⟩ = true) ∧ K (.agg [.s (.list 1 (encs strE (crashD ⟨ss, cs⟩ keep).sectors) false), .s (.list 2 (encs wrE (crashD ⟨ss, cs⟩ keep).cache) false)]) (sealW m locs (.agg [.s (.list 1 (encs strE (crashD ⟨ss, cs⟩ keep).sectors) false), .s (.list 2 (encs wrE (crashD ⟨ss, cs⟩ keep).cache) false)]))) := by
  have := Classical.propDecidable (((k = 1 ∨ keep = []) ∧ keep.length < 4000000) ∧ rightD ⟨ss, cs⟩ = true)
  exact callO_of rCrashG_eq
attribute [go_sem] rCrashG_call rCrashG_callo


def sameRG_enc : (List Bs) × (List Wr) × (Bool) × (Bool) × (List Bs) × (List Wr) × (Bool) × (Bool) → List V := fun ⟨ss, cs, f, g, tt, ws, f1, g1⟩ => [.agg [.s (.list 1 (encs strE ss) f), .s (.list 2 (encs wrE cs) g)], .agg [.s (.list 1 (encs strE tt) f1), .s (.list 2 (encs wrE ws) g1)]]
theorem sameRG_inj : ∀ x y, sameRG_enc x = sameRG_enc y → x = y := by
  rintro ⟨ss, cs, f, g, tt, ws, f1, g1⟩ ⟨ss2, cs2, f2, g2, tt2, ws2, f12, g12⟩ h
  simp only [sameRG_enc, List.cons.injEq, V.c.injEq, V.agg.injEq, C.s.injEq, S.list.injEq, S.str.injEq, S.int.injEq, S.bool.injEq, S.fn.injEq, S.cref.injEq, strE_inj, true_and, and_true, wrE_inj] at h
  simp_all
noncomputable def sameRG : List V → Option (V) := specE sameRG_enc (fun ⟨ss, cs, f, g, tt, ws, f1, g1⟩ => ss.length < 4000000 ∧ cs.length < 4000000) (fun ⟨ss, cs, f, g, tt, ws, f1, g1⟩ => .c (.s (.bool (decide ((⟨ss, cs⟩ : Disk) = ⟨tt, ws⟩)))))
theorem sameRG_eq {ss : List Bs} {cs : List Wr} {f : Bool} {g : Bool} {tt : List Bs} {ws : List Wr} {f1 : Bool} {g1 : Bool} [Decidable (ss.length < 4000000 ∧ cs.length < 4000000)] : sameRG [.agg [.s (.list 1 (encs strE ss) f), .s (.list 2 (encs wrE cs) g)], .agg [.s (.list 1 (encs strE tt) f1), .s (.list 2 (encs wrE ws) g1)]] = if ss.length < 4000000 ∧ cs.length < 4000000 then some (.c (.s (.bool (decide ((⟨ss, cs⟩ : Disk) = ⟨tt, ws⟩))))) else none := specE_eq sameRG_inj (ss, cs, f, g, tt, ws, f1, g1)
theorem sameRG_call {ss : List Bs} {cs : List Wr} {f : Bool} {g : Bool} {tt : List Bs} {ws : List Wr} {f1 : Bool} {g1 : Bool} {gt : Bool} {K : V → Prop} : callE sameRG [.agg [.s (.list 1 (encs strE ss) f), .s (.list 2 (encs wrE cs) g)], .agg [.s (.list 1 (encs strE tt) f1), .s (.list 2 (encs wrE ws) g1)]] gt K = ((gt = true → ss.length < 4000000 ∧ cs.length < 4000000) ∧ bindV (ifV gt (.c (.s (.bool (decide ((⟨ss, cs⟩ : Disk) = ⟨tt, ws⟩)))))) K) := by
  have := Classical.propDecidable (ss.length < 4000000 ∧ cs.length < 4000000)
  exact callE_of sameRG_eq
theorem sameRG_callo {ss : List Bs} {cs : List Wr} {f : Bool} {g : Bool} {tt : List Bs} {ws : List Wr} {f1 : Bool} {g1 : Bool} {m : Nat → Option Ab.Obj} {locs : List Nat} {K : V → (Nat → Option Ab.Obj) → Prop} : callO sameRG (some [.agg [.s (.list 1 (encs strE ss) f), .s (.list 2 (encs wrE cs) g)], .agg [.s (.list 1 (encs strE tt) f1), .s (.list 2 (encs wrE ws) g1)]]) m locs K = ((ss.length < 4000000 ∧ cs.length < 4000000) ∧ K (.c (.s (.bool (decide ((⟨ss, cs⟩ : Disk) = ⟨tt, ws⟩))))) (sealW m locs (.c (.s (.bool (decide ((⟨ss, cs⟩ : Disk) = ⟨tt, ws⟩))))))) := by
  have := Classical.propDecidable (ss.length < 4000000 ∧ cs.length < 4000000)
  exact callO_of sameRG_eq
attribute [go_sem] sameRG_call sameRG_callo

def sc_ref17_Same : SC := .seq (.reg [⟨some 2, .box 2, [.t 0], none⟩,
⟨some 3, .box 2, [.t 1], none⟩,
⟨some 4, .mv, [.k (.c (.s (.bool false)))], none⟩]) (.seq (.seq (.reg [⟨some 7, .fadr 0, [.t 2], none⟩,
⟨some 8, .load 1 false, [.t 7], none⟩,
⟨some 9, .len false, [.t 8], none⟩,
⟨some 10, .fadr 0, [.t 3], none⟩,
⟨some 11, .load 1 false, [.t 10], none⟩,
⟨some 12, .len false, [.t 11], none⟩,
⟨some 13, .bin .neq, [.t 9, .t 12], none⟩,
⟨some 14, .mv, [.t 13], none⟩,
⟨some 15, .fadr 1, [.t 2], some (14, false)⟩,
⟨some 16, .load 1 false, [.t 15], some (14, false)⟩,
⟨some 17, .len false, [.t 16], some (14, false)⟩,
⟨some 18, .fadr 1, [.t 3], some (14, false)⟩,
⟨some 19, .load 1 false, [.t 18], some (14, false)⟩,
⟨some 20, .len false, [.t 19], some (14, false)⟩,
⟨some 21, .bin .neq, [.t 17, .t 20], some (14, false)⟩,
⟨some 22, .pick, [.t 14, .k (.c (.s (.bool true))), .t 21], none⟩]) (.cond (.t 22) (.seq (.reg [⟨some 4, .mv, [.k (.c (.s (.bool false)))], none⟩]) (.ret)) (.skip))) (.seq (.seq (.reg [⟨some 5, .mv, [.k (.c (.s (.int .i64 0)))], none⟩]) (.block 0 (.loop (.seq (.seq (.reg [⟨some 23, .mv, [.t 5], none⟩,
⟨some 24, .fadr 0, [.t 2], none⟩,
⟨some 25, .load 1 false, [.t 24], none⟩,
⟨some 26, .len false, [.t 25], none⟩,
⟨some 27, .bin .lss, [.t 23, .t 26], none⟩]) (.cond (.t 27) (.skip) (.exit 0))) (.seq (.block 1 (.seq (.regD [⟨some 30, .fadr 0, [.t 2], none⟩,
⟨some 31, .load 1 false, [.t 30], none⟩,
⟨some 32, .mv, [.t 5], none⟩,
⟨some 33, .iadr 1, [.t 31, .t 32], none⟩,
⟨some 34, .load 1 false, [.t 33], none⟩,
⟨some 35, .fadr 0, [.t 3], none⟩,
⟨some 36, .load 1 false, [.t 35], none⟩,
⟨some 37, .mv, [.t 5], none⟩,
⟨some 38, .iadr 1, [.t 36, .t 37], none⟩,
⟨some 39, .load 1 false, [.t 38], none⟩,
⟨some 40, .bin .neq, [.t 34, .t 39], none⟩] []) (.cond (.t 40) (.seq (.reg [⟨some 4, .mv, [.k (.c (.s (.bool false)))], none⟩]) (.ret)) (.skip)))) (.reg [⟨some 28, .mv, [.t 5], none⟩,
⟨some 29, .bin .add, [.t 28, .k (.c (.s (.int .i64 1)))], none⟩,
⟨some 5, .mv, [.t 29], none⟩])))))) (.seq (.seq (.reg [⟨some 6, .mv, [.k (.c (.s (.int .i64 0)))], none⟩]) (.block 2 (.loop (.seq (.seq (.reg [⟨some 41, .mv, [.t 6], none⟩,
⟨some 42, .fadr 1, [.t 2], none⟩,
⟨some 43, .load 1 false, [.t 42], none⟩,
⟨some 44, .len false, [.t 43], none⟩,
⟨some 45, .bin .lss, [.t 41, .t 44], none⟩]) (.cond (.t 45) (.skip) (.exit 2))) (.seq (.block 3 (.seq (.regD [⟨some 48, .fadr 1, [.t 2], none⟩,
⟨some 49, .load 1 false, [.t 48], none⟩,
⟨some 50, .mv, [.t 6], none⟩,
⟨some 51, .iadr 2, [.t 49, .t 50], none⟩,
⟨some 52, .load 2 true, [.t 51], none⟩,
⟨some 53, .fadr 1, [.t 3], none⟩,
⟨some 54, .load 1 false, [.t 53], none⟩,
⟨some 55, .mv, [.t 6], none⟩,
⟨some 56, .iadr 2, [.t 54, .t 55], none⟩,
⟨some 57, .load 2 true, [.t 56], none⟩,
⟨some 58, .eqA true [1, 2], [.t 52, .t 57], none⟩] []) (.cond (.t 58) (.seq (.reg [⟨some 4, .mv, [.k (.c (.s (.bool false)))], none⟩]) (.ret)) (.skip)))) (.reg [⟨some 46, .mv, [.t 6], none⟩,
⟨some 47, .bin .add, [.t 46, .k (.c (.s (.int .i64 1)))], none⟩,
⟨some 6, .mv, [.t 47], none⟩])))))) (.seq (.reg [⟨some 4, .mv, [.k (.c (.s (.bool true)))], none⟩]) (.ret)))))
noncomputable def G_ref17_Same : FuncId → Ab.Spec := noS
theorem G_ref17_Same_ok : ∀ f, Contract Try.prog f (G_ref17_Same f) := (noS_ok _)
set_option maxHeartbeats 16000000 in
set_option maxRecDepth 1000000 in
set_option linter.unusedSimpArgs false in
set_option linter.unusedVariables false in
theorem contract_ref17_Same : Contract Try.prog 38 (plain sameRG) := by
  have hb : ∃ c, Try.f38.body = some c ∧ codeOk 59 c = true ∧ cCode Try.prog c = sc_ref17_Same := ⟨_, rfl, by kernel_rfl, by kernel_rfl⟩
  obtain ⟨c, hb1, hb2, hb3⟩ := hb
  refine contract_of (n := 2) G_ref17_Same_ok hB hD Try.func38 hb1 (by kernel_rfl) hb2 hb3 (rs := [.tmp 4]) (by kernel_rfl) (by decide) ?_ ?_
  · intro args x h
    obtain ⟨y, hy, -⟩ := Option.map_eq_some_iff.1 h
    obtain ⟨⟨ss, cs, f, g, tt, ws, f1, g1⟩, rfl, -⟩ := specE_some hy
    rfl
  · intro args r hr
    obtain ⟨y, hy, rfl⟩ := Option.map_eq_some_iff.1 hr
    obtain ⟨⟨ss, cs, f, g, tt, ws, f1, g1⟩, rfl, hc, rfl⟩ := specE_some hy
    clear hr hy
    have hc : ss.length < 4000000 ∧ cs.length < 4000000 := hc
    change awp _ _ (postQ _ (.v (.c (.s (.bool (decide ((⟨ss, cs⟩ : Disk) = ⟨tt, ws⟩))))))) _
    unfold sameRG_enc sc_ref17_Same
    by_cases h1 : ss.length = tt.length ∧ cs.length = ws.length
    case neg =>
      have e : (!decide ((ss.length : Int) = (tt.length : Int)) || !decide ((cs.length : Int) = (ws.length : Int))) = true := by simp; omega
      have hn : ¬ (⟨ss, cs⟩ : Disk) = ⟨tt, ws⟩ := fun h => by simp only [Disk.mk.injEq] at h; exact h1 ⟨by rw [h.1], by rw [h.2]⟩
      simp +contextual (maxSteps := 4000000) only [e, hn, go_sem, Nat.reduceAdd, Nat.reduceSub, Nat.reduceMul, Nat.reduceEqDiff, Nat.reduceLeDiff, Nat.reduceLT, Nat.reduceBEq, Int.reduceLE, Int.reduceLT, Int.reduceToNat, Int.reduceNeg, Int.reduceAdd, Int.reduceSub, Int.reduceMul, ↓reduceIte]
    obtain ⟨h1, h2⟩ := h1
    have e : (!decide ((ss.length : Int) = (tt.length : Int)) || !decide ((cs.length : Int) = (ws.length : Int))) = false := by simp [h1, h2]
    simp +contextual (maxSteps := 4000000) only [e, go_sem, Nat.reduceAdd, Nat.reduceSub, Nat.reduceMul, Nat.reduceEqDiff, Nat.reduceLeDiff, Nat.reduceLT, Nat.reduceBEq, Int.reduceLE, Int.reduceLT, Int.reduceToNat, Int.reduceNeg, Int.reduceAdd, Int.reduceSub, Int.reduceMul, ↓reduceIte]
    refine awp_loopM (α := Nat) (fun i => [(2, .c (.ptr 2 0)), (3, .c (.ptr 3 0)), (5, .c (.s (.int .i64 i)))]) (fun _ => [(2, .box [.s (.list 1 (encs strE ss) f), .s (.list 2 (encs wrE cs) g)]), (3, .box [.s (.list 1 (encs strE tt) f1), .s (.list 2 (encs wrE ws) g1)])]) (fun i => ss.length - i) 0 (fun i => i ≤ ss.length ∧ ss.take i = tt.take i) ⟨Nat.zero_le _, by simp⟩ (Weak.meets ?_) ?_
    · simp +contextual (maxSteps := 4000000) only [go_sem, Nat.reduceAdd, Nat.reduceSub, Nat.reduceMul, Nat.reduceEqDiff, Nat.reduceLeDiff, Nat.reduceLT, Nat.reduceBEq, Int.reduceLE, Int.reduceLT, Int.reduceToNat, Int.reduceNeg, Int.reduceAdd, Int.reduceSub, Int.reduceMul, ↓reduceIte]
      simp
    rintro x ⟨hx, hw⟩
    by_cases hxl : x < ss.length
    · have hxi : (x : Int) < (ss.length : Int) := by omega
      have hxi' : (x : Int) < (tt.length : Int) := by omega
      by_cases h6 : ss.getD x default = tt.getD x default
      · have ht := take_eq_snoc hxl h1 hw h6
        simp +contextual (maxSteps := 4000000) only [hxi, hxi', h6, go_sem, Nat.reduceAdd, Nat.reduceSub, Nat.reduceMul, Nat.reduceEqDiff, Nat.reduceLeDiff, Nat.reduceLT, Nat.reduceBEq, Int.reduceLE, Int.reduceLT, Int.reduceToNat, Int.reduceNeg, Int.reduceAdd, Int.reduceSub, Int.reduceMul, ↓reduceIte]
        exact ⟨by omega, x + 1, ⟨by omega, ht⟩, by omega, by omega⟩
      · have hn : ¬ (⟨ss, cs⟩ : Disk) = ⟨tt, ws⟩ := fun h => by simp only [Disk.mk.injEq] at h; exact h6 (by rw [h.1])
        simp +contextual (maxSteps := 4000000) only [hxi, hxi', h6, hn, go_sem, Nat.reduceAdd, Nat.reduceSub, Nat.reduceMul, Nat.reduceEqDiff, Nat.reduceLeDiff, Nat.reduceLT, Nat.reduceBEq, Int.reduceLE, Int.reduceLT, Int.reduceToNat, Int.reduceNeg, Int.reduceAdd, Int.reduceSub, Int.reduceMul, ↓reduceIte]
    have hxi : ¬ (x : Int) < (ss.length : Int) := by omega
    obtain rfl : x = ss.length := by omega
    rw [List.take_length, h1, List.take_length] at hw
    subst hw
    simp +contextual (maxSteps := 4000000) only [hxi, go_sem, Nat.reduceAdd, Nat.reduceSub, Nat.reduceMul, Nat.reduceEqDiff, Nat.reduceLeDiff, Nat.reduceLT, Nat.reduceBEq, Int.reduceLE, Int.reduceLT, Int.reduceToNat, Int.reduceNeg, Int.reduceAdd, Int.reduceSub, Int.reduceMul, ↓reduceIte]
    refine awp_loopM (α := Nat) (fun i => [(2, .c (.ptr 2 0)), (3, .c (.ptr 3 0)), (6, .c (.s (.int .i64 i)))]) (fun _ => [(2, .box [.s (.list 1 (encs strE ss) f), .s (.list 2 (encs wrE cs) g)]), (3, .box [.s (.list 1 (encs strE ss) f1), .s (.list 2 (encs wrE ws) g1)])]) (fun i => cs.length - i) 0 (fun i => i ≤ cs.length ∧ cs.take i = ws.take i) ⟨Nat.zero_le _, by simp⟩ (Weak.meets ?_) ?_
    · simp +contextual (maxSteps := 4000000) only [go_sem, Nat.reduceAdd, Nat.reduceSub, Nat.reduceMul, Nat.reduceEqDiff, Nat.reduceLeDiff, Nat.reduceLT, Nat.reduceBEq, Int.reduceLE, Int.reduceLT, Int.reduceToNat, Int.reduceNeg, Int.reduceAdd, Int.reduceSub, Int.reduceMul, ↓reduceIte]
      simp
    rintro y ⟨hy, hv⟩
    by_cases hyl : y < cs.length
    · have hyi : (y : Int) < (cs.length : Int) := by omega
      have hyi' : (y : Int) < (ws.length : Int) := by omega
      by_cases h6 : cs.getD y default = ws.getD y default
      · have ht := take_eq_snoc hyl h2 hv h6
        simp +contextual (maxSteps := 4000000) only [hyi, hyi', h6, go_sem, Nat.reduceAdd, Nat.reduceSub, Nat.reduceMul, Nat.reduceEqDiff, Nat.reduceLeDiff, Nat.reduceLT, Nat.reduceBEq, Int.reduceLE, Int.reduceLT, Int.reduceToNat, Int.reduceNeg, Int.reduceAdd, Int.reduceSub, Int.reduceMul, ↓reduceIte]
        exact ⟨by omega, y + 1, ⟨by omega, ht⟩, by omega, by omega⟩
      · have hn : ¬ (⟨ss, cs⟩ : Disk) = ⟨ss, ws⟩ := fun h => by simp only [Disk.mk.injEq] at h; exact h6 (by rw [h.2])
        have e6 : (decide ((cs.getD y default).loc = (ws.getD y default).loc) && decide ((cs.getD y default).data = (ws.getD y default).data)) = false := by
          rw [Bool.eq_false_iff]; intro h
          simp only [Bool.and_eq_true, decide_eq_true_eq] at h
          apply h6
          cases h7 : cs.getD y default; cases h8 : ws.getD y default
          rw [h7, h8] at h; simp only at h; rw [h.1, h.2]
        simp +contextual (maxSteps := 4000000) only [hyi, hyi', e6, hn, go_sem, Nat.reduceAdd, Nat.reduceSub, Nat.reduceMul, Nat.reduceEqDiff, Nat.reduceLeDiff, Nat.reduceLT, Nat.reduceBEq, Int.reduceLE, Int.reduceLT, Int.reduceToNat, Int.reduceNeg, Int.reduceAdd, Int.reduceSub, Int.reduceMul, ↓reduceIte]
    have hyi : ¬ (y : Int) < (cs.length : Int) := by omega
    obtain rfl : y = cs.length := by omega
    rw [List.take_length, h2, List.take_length] at hv
    subst hv
    simp +contextual (maxSteps := 4000000) only [hyi, go_sem, Nat.reduceAdd, Nat.reduceSub, Nat.reduceMul, Nat.reduceEqDiff, Nat.reduceLeDiff, Nat.reduceLT, Nat.reduceBEq, Int.reduceLE, Int.reduceLT, Int.reduceToNat, Int.reduceNeg, Int.reduceAdd, Int.reduceSub, Int.reduceMul, ↓reduceIte]

def sameG_enc : (List Bs) × (List Wr) × (Bool) × (Bool) × (List Bs) × (List Wr) × (Bool) × (Bool) → List V := fun ⟨ss, cs, f, g, tt, ws, f1, g1⟩ => [.agg [.s (.list 1 (encs strE ss) f), .s (.list 2 (encs wrE cs) g)], .agg [.s (.list 1 (encs strE tt) f1), .s (.list 2 (encs wrE ws) g1)]]
theorem sameG_inj : ∀ x y, sameG_enc x = sameG_enc y → x = y := by
  rintro ⟨ss, cs, f, g, tt, ws, f1, g1⟩ ⟨ss2, cs2, f2, g2, tt2, ws2, f12, g12⟩ h
  simp only [sameG_enc, List.cons.injEq, V.c.injEq, V.agg.injEq, C.s.injEq, S.list.injEq, S.str.injEq, S.int.injEq, S.bool.injEq, S.fn.injEq, S.cref.injEq, strE_inj, true_and, and_true, wrE_inj] at h
  simp_all
noncomputable def sameG : List V → Option (V) := specE sameG_enc (fun ⟨ss, cs, f, g, tt, ws, f1, g1⟩ => ss.length < 4000000 ∧ cs.length < 4000000) (fun ⟨ss, cs, f, g, tt, ws, f1, g1⟩ => .c (.s (.bool (decide ((⟨ss, cs⟩ : Disk) = ⟨tt, ws⟩)))))
theorem sameG_eq {ss : List Bs} {cs : List Wr} {f : Bool} {g : Bool} {tt : List Bs} {ws : List Wr} {f1 : Bool} {g1 : Bool} [Decidable (ss.length < 4000000 ∧ cs.length < 4000000)] : sameG [.agg [.s (.list 1 (encs strE ss) f), .s (.list 2 (encs wrE cs) g)], .agg [.s (.list 1 (encs strE tt) f1), .s (.list 2 (encs wrE ws) g1)]] = if ss.length < 4000000 ∧ cs.length < 4000000 then some (.c (.s (.bool (decide ((⟨ss, cs⟩ : Disk) = ⟨tt, ws⟩))))) else none := specE_eq sameG_inj (ss, cs, f, g, tt, ws, f1, g1)
theorem sameG_call {ss : List Bs} {cs : List Wr} {f : Bool} {g : Bool} {tt : List Bs} {ws : List Wr} {f1 : Bool} {g1 : Bool} {gt : Bool} {K : V → Prop} : callE sameG [.agg [.s (.list 1 (encs strE ss) f), .s (.list 2 (encs wrE cs) g)], .agg [.s (.list 1 (encs strE tt) f1), .s (.list 2 (encs wrE ws) g1)]] gt K = ((gt = true → ss.length < 4000000 ∧ cs.length < 4000000) ∧ bindV (ifV gt (.c (.s (.bool (decide ((⟨ss, cs⟩ : Disk) = ⟨tt, ws⟩)))))) K) := by
  have := Classical.propDecidable (ss.length < 4000000 ∧ cs.length < 4000000)
  exact callE_of sameG_eq
theorem sameG_callo {ss : List Bs} {cs : List Wr} {f : Bool} {g : Bool} {tt : List Bs} {ws : List Wr} {f1 : Bool} {g1 : Bool} {m : Nat → Option Ab.Obj} {locs : List Nat} {K : V → (Nat → Option Ab.Obj) → Prop} : callO sameG (some [.agg [.s (.list 1 (encs strE ss) f), .s (.list 2 (encs wrE cs) g)], .agg [.s (.list 1 (encs strE tt) f1), .s (.list 2 (encs wrE ws) g1)]]) m locs K = ((ss.length < 4000000 ∧ cs.length < 4000000) ∧ K (.c (.s (.bool (decide ((⟨ss, cs⟩ : Disk) = ⟨tt, ws⟩))))) (sealW m locs (.c (.s (.bool (decide ((⟨ss, cs⟩ : Disk) = ⟨tt, ws⟩))))))) := by
  have := Classical.propDecidable (ss.length < 4000000 ∧ cs.length < 4000000)
  exact callO_of sameG_eq
attribute [go_sem] sameG_call sameG_callo


def rRunG_enc : (List Bs) × (List Wr) × (Bool) × (Bool) × (List DOp) × (Bool) × (Int) → List V := fun ⟨ss, cs, f, g, l, h, n⟩ => [.agg [.s (.list 1 (encs strE ss) f), .s (.list 2 (encs wrE cs) g)], .c (.s (.list 3 (encs opE l) h)), .c (.s (.int .i64 n))]
theorem rRunG_inj : ∀ x y, rRunG_enc x = rRunG_enc y → x = y := by
  rintro ⟨ss, cs, f, g, l, h, n⟩ ⟨ss2, cs2, f2, g2, l2, h2, n2⟩ h
  simp only [rRunG_enc, List.cons.injEq, V.c.injEq, V.agg.injEq, C.s.injEq, S.list.injEq, S.str.injEq, S.int.injEq, S.bool.injEq, S.fn.injEq, S.cref.injEq, strE_inj, true_and, and_true, wrE_inj, opE_inj] at h
  simp_all
noncomputable def rRunG : List V → Option (V) := specE rRunG_enc (fun ⟨ss, cs, f, g, l, h, n⟩ => ss.length < 4000000 ∧ cs.length < 4000000 ∧ l.length < 4000000) (fun ⟨ss, cs, f, g, l, h, n⟩ => .agg [.s (.list 1 (encs strE (runN ⟨ss, cs⟩ l n).sectors) false), .s (.list 2 (encs wrE (runN ⟨ss, cs⟩ l n).cache) false)])
theorem rRunG_eq {ss : List Bs} {cs : List Wr} {f : Bool} {g : Bool} {l : List DOp} {h : Bool} {n : Int} [Decidable (ss.length < 4000000 ∧ cs.length < 4000000 ∧ l.length < 4000000)] : rRunG [.agg [.s (.list 1 (encs strE ss) f), .s (.list 2 (encs wrE cs) g)], .c (.s (.list 3 (encs opE l) h)), .c (.s (.int .i64 n))] = if ss.length < 4000000 ∧ cs.length < 4000000 ∧ l.length < 4000000 then some (.agg [.s (.list 1 (encs strE (runN ⟨ss, cs⟩ l n).sectors) false), .s (.list 2 (encs wrE (runN ⟨ss, cs⟩ l n).cache) false)]) else none := specE_eq rRunG_inj (ss, cs, f, g, l, h, n)
theorem rRunG_call {ss : List Bs} {cs : List Wr} {f : Bool} {g : Bool} {l : List DOp} {h : Bool} {n : Int} {gt : Bool} {K : V → Prop} : callE rRunG [.agg [.s (.list 1 (encs strE ss) f), .s (.list 2 (encs wrE cs) g)], .c (.s (.list 3 (encs opE l) h)), .c (.s (.int .i64 n))] gt K = ((gt = true → ss.length < 4000000 ∧ cs.length < 4000000 ∧ l.length < 4000000) ∧ bindV (ifV gt (.agg [.s (.list 1 (encs strE (runN ⟨ss, cs⟩ l n).sectors) false), .s (.list 2 (encs wrE (runN ⟨ss, cs⟩ l n).cache) false)])) K) := by
  have := Classical.propDecidable (ss.length < 4000000 ∧ cs.length < 4000000 ∧ l.length < 4000000)
  exact callE_of rRunG_eq
theorem rRunG_callo {ss : List Bs} {cs : List Wr} {f : Bool} {g : Bool} {l : List DOp} {h : Bool} {n : Int} {m : Nat → Option Ab.Obj} {locs : List Nat} {K : V → (Nat → Option Ab.Obj) → Prop} : callO rRunG (some [.agg [.s (.list 1 (encs strE ss) f), .s (.list 2 (encs wrE cs) g)], .c (.s (.list 3 (encs opE l) h)), .c (.s (.int .i64 n))]) m locs K = ((ss.length < 4000000 ∧ cs.length < 4000000 ∧ l.length < 4000000) ∧ K (.agg [.s (.list 1 (encs strE (runN ⟨ss, cs⟩ l n).sectors) false), .s (.list 2 (encs wrE (runN ⟨ss, cs⟩ l n).cache) false)]) (sealW m locs (.agg [.s (.list 1 (encs strE (runN ⟨ss, cs⟩ l n).sectors) false), .s (.list 2 (encs wrE (runN ⟨ss, cs⟩ l n).cache) false)]))) := by
  have := Classical.propDecidable (ss.length < 4000000 ∧ cs.length < 4000000 ∧ l.length < 4000000)
  exact callO_of rRunG_eq
attribute [go_sem] rRunG_call rRunG_callo

def sc_ref17_Run : SC := .seq (.reg [⟨some 3, .box 2, [.t 0], none⟩,
⟨some 6, .alloc [.list 0 [] true, .list 0 [] true], [], none⟩]) (.seq (.seq (.reg [⟨some 10, .load 2 true, [.t 3], none⟩,
⟨some 11, .call 45, [.t 10], none⟩,
⟨some 12, .not, [.t 11], none⟩]) (.cond (.t 12) (.seq (.reg [⟨some 13, .load 2 true, [.t 3], none⟩,
⟨none, .store 2 true, [.t 6, .t 13], none⟩]) (.ret)) (.skip))) (.seq (.seq (.reg [⟨some 7, .mv, [.k (.c (.s (.int .i64 0)))], none⟩]) (.block 0 (.loop (.seq (.seq (.reg [⟨some 14, .mv, [.t 7], none⟩,
⟨some 15, .mv, [.t 1], none⟩,
⟨some 16, .len false, [.t 15], none⟩,
⟨some 17, .bin .lss, [.t 14, .t 16], none⟩,
⟨some 18, .mv, [.t 17], none⟩,
⟨some 19, .mv, [.t 7], some (18, true)⟩,
⟨some 20, .mv, [.t 2], some (18, true)⟩,
⟨some 21, .bin .lss, [.t 19, .t 20], some (18, true)⟩,
⟨some 22, .pick, [.t 18, .t 21, .k (.c (.s (.bool false)))], none⟩]) (.cond (.t 22) (.skip) (.exit 0))) (.seq (.block 1 (.seq (.reg [⟨some 25, .mv, [.t 1], none⟩,
⟨some 26, .mv, [.t 7], none⟩,
⟨some 27, .iadr 3, [.t 25, .t 26], none⟩,
⟨some 28, .fadr 1, [.t 27], none⟩,
⟨some 29, .load 2 true, [.t 28], none⟩,
⟨some 8, .alloc [.int .i64 0, .str []], [], none⟩,
⟨none, .store 2 true, [.t 8, .t 29], none⟩]) (.seq (.reg [⟨some 30, .mv, [.t 1], none⟩,
⟨some 31, .mv, [.t 7], none⟩,
⟨some 32, .iadr 3, [.t 30, .t 31], none⟩,
⟨some 33, .fadr 0, [.t 32], none⟩,
⟨some 34, .load 1 false, [.t 33], none⟩]) (.cond (.t 34) (.reg [⟨some 35, .load 2 true, [.t 3], none⟩,
⟨some 36, .call 66, [.t 35], none⟩,
⟨none, .store 2 true, [.t 3, .t 36], none⟩]) (.seq (.reg [⟨some 37, .fadr 0, [.t 8], none⟩,
⟨some 38, .load 1 false, [.t 37], none⟩,
⟨some 39, .bin .geq, [.t 38, .k (.c (.s (.int .i64 0)))], none⟩,
⟨some 40, .mv, [.t 39], none⟩,
⟨some 41, .fadr 0, [.t 8], some (40, true)⟩,
⟨some 42, .load 1 false, [.t 41], some (40, true)⟩,
⟨some 43, .fadr 0, [.t 3], some (40, true)⟩,
⟨some 44, .load 1 false, [.t 43], some (40, true)⟩,
⟨some 45, .len false, [.t 44], some (40, true)⟩,
⟨some 46, .bin .lss, [.t 42, .t 45], some (40, true)⟩,
⟨some 47, .pick, [.t 40, .t 46, .k (.c (.s (.bool false)))], none⟩,
⟨some 48, .mv, [.t 47], none⟩,
⟨some 49, .fadr 1, [.t 8], some (48, true)⟩,
⟨some 50, .load 1 false, [.t 49], some (48, true)⟩,
⟨some 51, .len true, [.t 50], some (48, true)⟩,
⟨some 52, .bin .eql, [.t 51, .k (.c (.s (.int .i64 32)))], some (48, true)⟩,
⟨some 53, .pick, [.t 48, .t 52, .k (.c (.s (.bool false)))], none⟩,
⟨some 54, .mv, [.t 53], none⟩,
⟨some 55, .fadr 1, [.t 3], some (54, true)⟩,
⟨some 56, .load 1 false, [.t 55], some (54, true)⟩,
⟨some 57, .len false, [.t 56], some (54, true)⟩,
⟨some 58, .bin .lss, [.t 57, .k (.c (.s (.int .i64 700)))], some (54, true)⟩,
⟨some 59, .pick, [.t 54, .t 58, .k (.c (.s (.bool false)))], none⟩]) (.cond (.t 59) (.seq (.reg [⟨some 9, .mv, [.k (.c (.s (.list 0 [] true)))], none⟩]) (.seq (.reg [⟨some 60, .mv, [.t 9], none⟩,
⟨some 61, .fadr 1, [.t 3], none⟩,
⟨some 62, .load 1 false, [.t 61], none⟩,
⟨some 63, .append false 2 24, [.t 60, .t 62], none⟩,
⟨some 9, .mv, [.t 63], none⟩]) (.regD [⟨some 64, .fadr 0, [.t 3], none⟩,
⟨some 65, .load 1 false, [.t 64], none⟩,
⟨some 66, .mv, [.t 9], none⟩,
⟨some 67, .load 2 true, [.t 8], none⟩,
⟨some 68, .bslice 2 1 [.int .i64 0, .str []] [0], [.t 67], none⟩,
⟨some 69, .append false 2 24, [.t 66, .t 68], none⟩,
⟨some 70, .build [.list 0 [] true, .list 0 [] true] [(0, 1), (1, 1)], [.t 65, .t 69], none⟩,
⟨none, .store 2 true, [.t 3, .t 70], none⟩] [(0, 4), (1, 4), (0, 5), (1, 5)]))) (.skip))))))) (.reg [⟨some 23, .mv, [.t 7], none⟩,
⟨some 24, .bin .add, [.t 23, .k (.c (.s (.int .i64 1)))], none⟩,
⟨some 7, .mv, [.t 24], none⟩])))))) (.seq (.reg [⟨some 71, .load 2 true, [.t 3], none⟩,
⟨none, .store 2 true, [.t 6, .t 71], none⟩]) (.ret))))
noncomputable def G_ref17_Run : FuncId → Ab.Spec := addS (addS (noS) 45 (plain rRightG)) 66 (plain rSyncG)
theorem G_ref17_Run_ok : ∀ f, Contract Try.prog f (G_ref17_Run f) := (addS_ok (addS_ok (noS_ok _) contract_ref17_Right) contract_ref17_Sync)
theorem G36_45 : G_ref17_Run 45 = plain rRightG := by simp [G_ref17_Run, addS]
theorem G36_66 : G_ref17_Run 66 = plain rSyncG := by simp [G_ref17_Run, addS]
set_option maxHeartbeats 16000000 in
set_option maxRecDepth 1000000 in
set_option linter.unusedSimpArgs false in
set_option linter.unusedVariables false in
theorem contract_ref17_Run : Contract Try.prog 36 (plain rRunG) := by
  have hb : ∃ c, Try.f36.body = some c ∧ codeOk 72 c = true ∧ cCode Try.prog c = sc_ref17_Run := ⟨_, rfl, by kernel_rfl, by kernel_rfl⟩
  obtain ⟨c, hb1, hb2, hb3⟩ := hb
  refine contract_of (n := 3) G_ref17_Run_ok hB hD Try.func36 hb1 (by kernel_rfl) hb2 hb3 (rs := [.cell 6 2 true]) (by kernel_rfl) (by decide) ?_ ?_
  · intro args x h
    obtain ⟨y, hy, -⟩ := Option.map_eq_some_iff.1 h
    obtain ⟨⟨ss, cs, f, g, l, h, n⟩, rfl, -⟩ := specE_some hy
    rfl
  · intro args r hr
    obtain ⟨y, hy, rfl⟩ := Option.map_eq_some_iff.1 hr
    obtain ⟨⟨ss, cs, f, g, l, h, n⟩, rfl, hc, rfl⟩ := specE_some hy
    clear hr hy
    have hc : ss.length < 4000000 ∧ cs.length < 4000000 ∧ l.length < 4000000 := hc
    change awp _ _ (postQ _ (.v (.agg [.s (.list 1 (encs strE (runN ⟨ss, cs⟩ l n).sectors) false), .s (.list 2 (encs wrE (runN ⟨ss, cs⟩ l n).cache) false)]))) _
    unfold rRunG_enc sc_ref17_Run
    have hq : runN ⟨ss, cs⟩ l n = runD ⟨ss, cs⟩ (l.take n.toNat) := rfl
    rw [hq]
    cases hr : rightD ⟨ss, cs⟩ with
    | false =>
      have := wrong_run hr (l.take n.toNat)
      simp +contextual (maxSteps := 4000000) only [↓exT_call G36_45, ↓exT_callo G36_45, ↓exT_calloG G36_45, ↓exT_call G36_66, ↓exT_callo G36_66, ↓exT_calloG G36_66, hr, this, go_sem, Nat.reduceAdd, Nat.reduceSub, Nat.reduceMul, Nat.reduceEqDiff, Nat.reduceLeDiff, Nat.reduceLT, Nat.reduceBEq, Int.reduceLE, Int.reduceLT, Int.reduceToNat, Int.reduceNeg, Int.reduceAdd, Int.reduceSub, Int.reduceMul, ↓reduceIte]
    | true =>
    simp +contextual (maxSteps := 4000000) only [↓exT_call G36_45, ↓exT_callo G36_45, ↓exT_calloG G36_45, ↓exT_call G36_66, ↓exT_callo G36_66, ↓exT_calloG G36_66, hr, go_sem, Nat.reduceAdd, Nat.reduceSub, Nat.reduceMul, Nat.reduceEqDiff, Nat.reduceLeDiff, Nat.reduceLT, Nat.reduceBEq, Int.reduceLE, Int.reduceLT, Int.reduceToNat, Int.reduceNeg, Int.reduceAdd, Int.reduceSub, Int.reduceMul, ↓reduceIte]
    refine awp_loopM (α := Nat × Bool × Bool) (fun y => [(1, .c (.s (.list 3 (encs opE l) h))), (2, .c (.s (.int .i64 n))), (3, .c (.ptr 3 0)), (6, .c (.ptr 6 0)), (7, .c (.s (.int .i64 y.1)))])
      (fun y => [(3, .box [.s (.list 1 (encs strE (runD ⟨ss, cs⟩ (l.take y.1)).sectors) y.2.1), .s (.list 2 (encs wrE (runD ⟨ss, cs⟩ (l.take y.1)).cache) y.2.2)]), (6, .box [.s (.list 0 [] true), .s (.list 0 [] true)])])
      (fun y => l.length - y.1) (0, f, g) (fun y => y.1 ≤ (l.take n.toNat).length) (Nat.zero_le _) (Weak.meets ?_) ?_
    · simp +contextual (maxSteps := 4000000) only [↓exT_call G36_45, ↓exT_callo G36_45, ↓exT_calloG G36_45, ↓exT_call G36_66, ↓exT_callo G36_66, ↓exT_calloG G36_66, go_sem, Nat.reduceAdd, Nat.reduceSub, Nat.reduceMul, Nat.reduceEqDiff, Nat.reduceLeDiff, Nat.reduceLT, Nat.reduceBEq, Int.reduceLE, Int.reduceLT, Int.reduceToNat, Int.reduceNeg, Int.reduceAdd, Int.reduceSub, Int.reduceMul, ↓reduceIte]
      simp [runD]
    rintro ⟨x, f2, g2⟩ hx
    simp only [List.length_take] at hx
    obtain ⟨hl1, hl2⟩ := run_len (l.take x) ⟨ss, cs⟩
    have hrr := right_run hr (l.take x)
    simp only at hl1 hl2
    by_cases hxl : x < l.length ∧ (x : Int) < n
    · have hxi : (x : Int) < (l.length : Int) := by omega
      have ht := run_snoc (d := ⟨ss, cs⟩) hxl.1
      generalize runD ⟨ss, cs⟩ (l.take x) = dd at *
      generalize hoo : l.getD x default = oo at *
      cases hs : oo.sync with
      | true =>
        have hst : stepD dd oo = syncD dd := by unfold stepD; rw [if_pos hs]
        have hsy := sync_get hrr
        have hsc : (syncD dd).cache = [] := by unfold syncD; rw [if_pos hrr]
        have hsr : rsyncD dd = syncD dd := by unfold rsyncD; rw [← hsy, ← hsc]
        rw [hst] at ht
        simp +contextual (maxSteps := 4000000) only [↓exT_call G36_45, ↓exT_callo G36_45, ↓exT_calloG G36_45, ↓exT_call G36_66, ↓exT_callo G36_66, ↓exT_calloG G36_66, hxi, hxl.2, hoo, hs, hsr, go_sem, Nat.reduceAdd, Nat.reduceSub, Nat.reduceMul, Nat.reduceEqDiff, Nat.reduceLeDiff, Nat.reduceLT, Nat.reduceBEq, Int.reduceLE, Int.reduceLT, Int.reduceToNat, Int.reduceNeg, Int.reduceAdd, Int.reduceSub, Int.reduceMul, ↓reduceIte]
        refine ⟨⟨by omega, by omega⟩, by omega, (x + 1, false, false), ?_⟩
        simp only [ht, List.length_take, true_and, and_true, and_self]
        omega
      | false =>
        have hst : stepD dd oo = (putW dd oo.w).1 := by unfold stepD; rw [if_neg (by simp [hs])]
        rw [hst] at ht
        cases hm : (mayD dd.sectors.length oo.w && decide ((dd.cache.length : Int) < 700)) with
        | true =>
          have e : (decide (0 ≤ oo.w.loc) && decide (oo.w.loc < (dd.sectors.length : Int)) && decide ((oo.w.data.length : Int) = 32) && decide ((dd.cache.length : Int) < 700)) = true := by
            have : decide ((oo.w.data.length : Int) = 32) = decide (oo.w.data.length = 32) := by rw [decide_eq_decide]; omega
            rw [this]; exact hm
          simp only [Bool.and_eq_true, decide_eq_true_eq] at hm
          have hp : putW dd oo.w = (⟨dd.sectors, dd.cache ++ [oo.w]⟩, 0) := by unfold putW; rw [if_pos ⟨hrr, hm.1⟩, if_neg (by omega)]
          rw [hp] at ht
          simp +contextual (maxSteps := 4000000) only [↓exT_call G36_45, ↓exT_callo G36_45, ↓exT_calloG G36_45, ↓exT_call G36_66, ↓exT_callo G36_66, ↓exT_calloG G36_66, hxi, hxl.2, hoo, hs, e, go_sem, Nat.reduceAdd, Nat.reduceSub, Nat.reduceMul, Nat.reduceEqDiff, Nat.reduceLeDiff, Nat.reduceLT, Nat.reduceBEq, Int.reduceLE, Int.reduceLT, Int.reduceToNat, Int.reduceNeg, Int.reduceAdd, Int.reduceSub, Int.reduceMul, ↓reduceIte]
          refine ⟨by omega, by omega, by omega, (x + 1, f2, false), ?_⟩
          simp only [ht, List.length_take, encs_append, true_and, and_true, and_self]
          simp [encs, wrE]
          omega
        | false =>
          have e : (decide (0 ≤ oo.w.loc) && decide (oo.w.loc < (dd.sectors.length : Int)) && decide ((oo.w.data.length : Int) = 32) && decide ((dd.cache.length : Int) < 700)) = false := by
            have : decide ((oo.w.data.length : Int) = 32) = decide (oo.w.data.length = 32) := by rw [decide_eq_decide]; omega
            rw [this]; exact hm
          have hp : (putW dd oo.w).1 = dd := by
            unfold putW
            split
            · rename_i hh
              rw [hh.2, Bool.true_and] at hm
              have := of_decide_eq_false hm
              rw [if_pos (by omega)]
            · rfl
          rw [hp] at ht
          simp +contextual (maxSteps := 4000000) only [↓exT_call G36_45, ↓exT_callo G36_45, ↓exT_calloG G36_45, ↓exT_call G36_66, ↓exT_callo G36_66, ↓exT_calloG G36_66, hxi, hxl.2, hoo, hs, e, go_sem, Nat.reduceAdd, Nat.reduceSub, Nat.reduceMul, Nat.reduceEqDiff, Nat.reduceLeDiff, Nat.reduceLT, Nat.reduceBEq, Int.reduceLE, Int.reduceLT, Int.reduceToNat, Int.reduceNeg, Int.reduceAdd, Int.reduceSub, Int.reduceMul, ↓reduceIte]
          refine ⟨by omega, (x + 1, f2, g2), ?_⟩
          simp only [ht, List.length_take, true_and, and_true, and_self]
          omega
    · have hxi : (decide ((x : Int) < (l.length : Int)) && decide ((x : Int) < n)) = false := by
        rw [Bool.eq_false_iff]; simp only [ne_eq, Bool.and_eq_true, decide_eq_true_eq]; omega
      have hxe : l.take x = l.take n.toNat := by
        by_cases h1 : x < l.length
        · have : x = n.toNat := by omega
          rw [this]
        · rw [List.take_of_length_le (by omega), List.take_of_length_le (by omega)]
      rw [hxe]
      simp +contextual (maxSteps := 4000000) only [↓exT_call G36_45, ↓exT_callo G36_45, ↓exT_calloG G36_45, ↓exT_call G36_66, ↓exT_callo G36_66, ↓exT_calloG G36_66, hxi, go_sem, Nat.reduceAdd, Nat.reduceSub, Nat.reduceMul, Nat.reduceEqDiff, Nat.reduceLeDiff, Nat.reduceLT, Nat.reduceBEq, Int.reduceLE, Int.reduceLT, Int.reduceToNat, Int.reduceNeg, Int.reduceAdd, Int.reduceSub, Int.reduceMul, ↓reduceIte]

end Go.Proofs.Ytniioedflegdkaa
