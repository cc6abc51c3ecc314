/- The functions of package disk, first part: what is a disk. -/
import Derived.Test.YtcnemnehjpaggaaB1
import Derived.Test.YtcnemnehjpaggaaB3
import Derived.Test.YtcnemnehjpaggaaAb28
import Derived.Test.YtcnemnehjpaggaaD0
import Derived.Test.YtcnemnehjpaggaaD1
import Derived.Test.YtcnemnehjpaggaaD2
set_option linter.all false
namespace Go.Proofs.Ytcnemnehjpaggaa
open Go Go.Ab Go.Proofs Go.Fs
theorem hB : BldOK Try.prog := bldOK bldW
theorem hD : DrawOK Try.prog := drawOK (by kernel_rfl)
def wrE (w : Wr) : List S := [.int .i64 w.loc, .str w.data]
def opE (o : DOp) : List S := [.bool o.sync, .int .i64 o.w.loc, .str o.w.data]
def numE (n : Int) : List S := [.int .i64 n]
theorem wrE_eq {w : Wr} : wrE w = [.int .i64 w.loc, .str w.data] := nr rfl
theorem opE_eq {o : DOp} : opE o = [.bool o.sync, .int .i64 o.w.loc, .str o.w.data] := nr rfl
theorem numE_eq {n : Int} : numE n = [.int .i64 n] := nr rfl
theorem wrE_inj {a b : List Wr} : (encs wrE a = encs wrE b) = (a = b) := encs_inj fun x y e => by
  simp only [wrE, List.cons.injEq, S.int.injEq, S.str.injEq, true_and, and_true] at e
  cases x; cases y; simp_all
theorem opE_inj {a b : List DOp} : (encs opE a = encs opE b) = (a = b) := encs_inj fun x y e => by
  simp only [opE, List.cons.injEq, S.int.injEq, S.str.injEq, S.bool.injEq, true_and, and_true] at e
  obtain ⟨xs, xa, xd⟩ := x
  obtain ⟨ys, ya, yd⟩ := y
  simp_all
theorem numE_inj {a b : List Int} : (encs numE a = encs numE b) = (a = b) := encs_inj fun x y e => by
  simpa [numE] using e
attribute [go_sem] wrE_eq opE_eq numE_eq
def right1G : List V → Option V
  | [.c (.s (.str s))] => some (.c (.s (.bool (!decide (s.length = 32)))))
  | _ => none
theorem right1G_call {s : Bs} {gt : Bool} {K : V → Prop} : callE right1G [.c (.s (.str s))] gt K = bindV (ifV gt (.c (.s (.bool (!decide (s.length = 32)))))) K := callE_all rfl
theorem right1G_callo {s : Bs} {m : Nat → Option Ab.Obj} {locs : List Nat} {K : V → (Nat → Option Ab.Obj) → Prop} : callO right1G (some [.c (.s (.str s))]) m locs K = K (.c (.s (.bool (!decide (s.length = 32))))) (sealW m locs (.c (.s (.bool (!decide (s.length = 32)))))) := callO_all rfl
attribute [go_sem] right1G_call right1G_callo

def sc_disk_Right_1 : SC := .seq (.reg [⟨some 2, .mv, [.k (.c (.s (.bool false)))], none⟩]) (.seq (.reg [⟨some 3, .mv, [.t 0], none⟩,
⟨some 4, .len true, [.t 3], none⟩,
⟨some 5, .bin .neq, [.t 4, .k (.c (.s (.int .i64 32)))], none⟩,
⟨some 2, .mv, [.t 5], none⟩]) (.ret))
noncomputable def G_disk_Right_1 : FuncId → Ab.Spec := noS
theorem G_disk_Right_1_ok : ∀ f, Contract Try.prog f (G_disk_Right_1 f) := (noS_ok _)
set_option maxHeartbeats 16000000 in
set_option maxRecDepth 1000000 in
set_option linter.unusedSimpArgs false in
set_option linter.unusedVariables false in
theorem contract_disk_Right_1 : Contract Try.prog 32 (plain right1G) := by
  have hb : ∃ c, Try.f32.body = some c ∧ codeOk 6 c = true ∧ cCode Try.prog c = sc_disk_Right_1 := ⟨_, rfl, by kernel_rfl, by kernel_rfl⟩
  obtain ⟨c, hb1, hb2, hb3⟩ := hb
  refine contract_of (n := 1) G_disk_Right_1_ok hB hD Try.func32 hb1 (by kernel_rfl) hb2 hb3 (rs := [.tmp 2]) (by kernel_rfl) (by decide) ?_ ?_
  · intro args x h
    unfold plain right1G at h
    split at h <;> simp_all
  · intro args r hr
    unfold plain right1G at hr
    split at hr
    case h_2 => cases hr
    rename_i s
    simp only [Option.map_some, Option.some.injEq] at hr
    subst hr
    unfold sc_disk_Right_1
    simp +contextual (maxSteps := 4000000) only [go_sem, Nat.reduceAdd, Nat.reduceSub, Nat.reduceMul, Nat.reduceEqDiff, Nat.reduceLeDiff, Nat.reduceLT, Nat.reduceBEq, Int.reduceLE, Int.reduceLT, Int.reduceToNat, Int.reduceNeg, Int.reduceAdd, Int.reduceSub, Int.reduceMul, ↓reduceIte]
    have : decide ((s.length : Int) = 32) = decide (s.length = 32) := by rw [decide_eq_decide]; omega
    rw [this]

def idxSG_enc : (List Bs) × (Bool) → List V := fun ⟨ss, f⟩ => [.c (.s (.list 1 (encs strE ss) f)), .c (.s (.fn 32 []))]
theorem idxSG_inj : ∀ x y, idxSG_enc x = idxSG_enc y → x = y := by
  rintro ⟨ss, f⟩ ⟨ss2, f2⟩ h
  simp only [idxSG_enc, List.cons.injEq, V.c.injEq, V.agg.injEq, C.s.injEq, S.list.injEq, S.str.injEq, S.int.injEq, S.bool.injEq, S.fn.injEq, S.cref.injEq, strE_inj, true_and, and_true] at h
  simp_all
noncomputable def idxSG : List V → Option (V) := specE idxSG_enc (fun ⟨ss, f⟩ => ss.length < 4000000) (fun ⟨ss, f⟩ => .c (.s (.int .i64 (findI (fun s => !decide (s.length = 32)) ss))))
theorem idxSG_eq {ss : List Bs} {f : Bool} [Decidable (ss.length < 4000000)] : idxSG [.c (.s (.list 1 (encs strE ss) f)), .c (.s (.fn 32 []))] = if ss.length < 4000000 then some (.c (.s (.int .i64 (findI (fun s => !decide (s.length = 32)) ss)))) else none := specE_eq idxSG_inj (ss, f)
theorem idxSG_call {ss : List Bs} {f : Bool} {gt : Bool} {K : V → Prop} : callE idxSG [.c (.s (.list 1 (encs strE ss) f)), .c (.s (.fn 32 []))] gt K = ((gt = true → ss.length < 4000000) ∧ bindV (ifV gt (.c (.s (.int .i64 (findI (fun s => !decide (s.length = 32)) ss))))) K) := by
  have := Classical.propDecidable (ss.length < 4000000)
  exact callE_of idxSG_eq
theorem idxSG_callo {ss : List Bs} {f : Bool} {m : Nat → Option Ab.Obj} {locs : List Nat} {K : V → (Nat → Option Ab.Obj) → Prop} : callO idxSG (some [.c (.s (.list 1 (encs strE ss) f)), .c (.s (.fn 32 []))]) m locs K = ((ss.length < 4000000) ∧ K (.c (.s (.int .i64 (findI (fun s => !decide (s.length = 32)) ss)))) (sealW m locs (.c (.s (.int .i64 (findI (fun s => !decide (s.length = 32)) ss)))))) := by
  have := Classical.propDecidable (ss.length < 4000000)
  exact callO_of idxSG_eq
attribute [go_sem] idxSG_call idxSG_callo

def sc_slices_IndexFunc_string : SC := .seq (.reg [⟨some 4, .mv, [.k (.c (.s (.int .i64 0)))], none⟩]) (.seq (.seq (.reg [⟨some 6, .mv, [.t 0], none⟩,
⟨some 7, .len false, [.t 6], none⟩,
⟨some 8, .mv, [.k (.c (.s (.int .i64 0)))], none⟩]) (.block 0 (.loop (.seq (.reg [⟨some 9, .bin .lss, [.t 8, .t 7], none⟩]) (.seq (.cond (.t 9) (.skip) (.exit 0)) (.seq (.block 1 (.seq (.reg [⟨some 10, .mv, [.t 8], none⟩,
⟨some 5, .mv, [.t 10], none⟩]) (.seq (.reg [⟨some 11, .mv, [.t 1], none⟩,
⟨some 12, .mv, [.t 0], none⟩,
⟨some 13, .mv, [.t 5], none⟩,
⟨some 14, .iadr 1, [.t 12, .t 13], none⟩,
⟨some 15, .load 1 false, [.t 14], none⟩,
⟨some 16, .callv, [.t 11, .t 15], none⟩]) (.cond (.t 16) (.seq (.reg [⟨some 17, .mv, [.t 5], none⟩,
⟨some 4, .mv, [.t 17], none⟩]) (.ret)) (.skip))))) (.reg [⟨some 18, .bin .add, [.t 8, .k (.c (.s (.int .i64 1)))], none⟩,
⟨some 8, .mv, [.t 18], none⟩]))))))) (.seq (.reg [⟨some 4, .mv, [.k (.c (.s (.int .i64 (-1))))], none⟩]) (.ret)))
noncomputable def G_slices_IndexFunc_string : FuncId → Ab.Spec := addS (noS) 32 (plain right1G)
theorem G_slices_IndexFunc_string_ok : ∀ f, Contract Try.prog f (G_slices_IndexFunc_string f) := (addS_ok (noS_ok _) contract_disk_Right_1)
theorem G47_32 : G_slices_IndexFunc_string 32 = plain right1G := by simp [G_slices_IndexFunc_string, addS]
set_option maxHeartbeats 16000000 in
set_option maxRecDepth 1000000 in
set_option linter.unusedSimpArgs false in
set_option linter.unusedVariables false in
theorem contract_slices_IndexFunc_string : Contract Try.prog 47 (plain idxSG) := by
  have hb : ∃ c, Try.f47.body = some c ∧ codeOk 19 c = true ∧ cCode Try.prog c = sc_slices_IndexFunc_string := ⟨_, rfl, by kernel_rfl, by kernel_rfl⟩
  obtain ⟨c, hb1, hb2, hb3⟩ := hb
  refine contract_of (n := 2) G_slices_IndexFunc_string_ok hB hD Try.func47 hb1 (by kernel_rfl) hb2 hb3 (rs := [.tmp 4]) (by kernel_rfl) (by decide) ?_ ?_
  · intro args x h
    obtain ⟨y, hy, -⟩ := Option.map_eq_some_iff.1 h
    obtain ⟨⟨ss, f⟩, rfl, -⟩ := specE_some hy
    rfl
  · intro args r hr
    obtain ⟨y, hy, rfl⟩ := Option.map_eq_some_iff.1 hr
    obtain ⟨⟨ss, f⟩, rfl, hc, rfl⟩ := specE_some hy
    clear hr hy
    have hc : ss.length < 4000000 := hc
    change awp _ _ (postQ _ (.v (.c (.s (.int .i64 (findI (fun s => !decide (s.length = 32)) ss)))))) _
    unfold idxSG_enc sc_slices_IndexFunc_string
    simp +contextual (maxSteps := 4000000) only [↓exT_call G47_32, ↓exT_callo G47_32, ↓exT_calloG G47_32, exO_callv G47_32, go_sem, Nat.reduceAdd, Nat.reduceSub, Nat.reduceMul, Nat.reduceEqDiff, Nat.reduceLeDiff, Nat.reduceLT, Nat.reduceBEq, Int.reduceLE, Int.reduceLT, Int.reduceToNat, Int.reduceNeg, Int.reduceAdd, Int.reduceSub, Int.reduceMul, ↓reduceIte]
    refine awp_loopM (α := Nat) (fun i => [(0, .c (.s (.list 1 (encs strE ss) f))), (1, .c (.s (.fn 32 []))), (7, .c (.s (.int .i64 ss.length))), (8, .c (.s (.int .i64 i)))]) (fun _ => []) (fun i => ss.length - i) 0 (fun i => i ≤ ss.length ∧ ∀ s ∈ ss.take i, s.length = 32) ⟨Nat.zero_le _, by simp⟩ (Weak.meets ?_) ?_
    · simp +contextual (maxSteps := 4000000) only [↓exT_call G47_32, ↓exT_callo G47_32, ↓exT_calloG G47_32, exO_callv G47_32, go_sem, Nat.reduceAdd, Nat.reduceSub, Nat.reduceMul, Nat.reduceEqDiff, Nat.reduceLeDiff, Nat.reduceLT, Nat.reduceBEq, Int.reduceLE, Int.reduceLT, Int.reduceToNat, Int.reduceNeg, Int.reduceAdd, Int.reduceSub, Int.reduceMul, ↓reduceIte]
      simp
    rintro x ⟨hx, hw⟩
    by_cases hxl : x < ss.length
    · have hxi : (x : Int) < (ss.length : Int) := by omega
      cases hp : decide ((ss.getD x default).length = 32) with
      | true =>
        simp +contextual (maxSteps := 4000000) only [↓exT_call G47_32, ↓exT_callo G47_32, ↓exT_calloG G47_32, exO_callv G47_32, hxi, hp, go_sem, Nat.reduceAdd, Nat.reduceSub, Nat.reduceMul, Nat.reduceEqDiff, Nat.reduceLeDiff, Nat.reduceLT, Nat.reduceBEq, Int.reduceLE, Int.reduceLT, Int.reduceToNat, Int.reduceNeg, Int.reduceAdd, Int.reduceSub, Int.reduceMul, ↓reduceIte]
        exact ⟨by omega, x + 1, ⟨by omega, take_all hxl hw (of_decide_eq_true hp)⟩, by omega, by omega⟩
      | false =>
        have := findI_hit (p := fun s : Bs => !decide (s.length = 32)) hxl (fun s hs => by simp [hw s hs]) (by rw [hp]; rfl)
        simp +contextual (maxSteps := 4000000) only [↓exT_call G47_32, ↓exT_callo G47_32, ↓exT_calloG G47_32, exO_callv G47_32, hxi, hp, this, go_sem, Nat.reduceAdd, Nat.reduceSub, Nat.reduceMul, Nat.reduceEqDiff, Nat.reduceLeDiff, Nat.reduceLT, Nat.reduceBEq, Int.reduceLE, Int.reduceLT, Int.reduceToNat, Int.reduceNeg, Int.reduceAdd, Int.reduceSub, Int.reduceMul, ↓reduceIte]
    · have hxi : ¬ (x : Int) < (ss.length : Int) := by omega
      obtain rfl : x = ss.length := by omega
      rw [List.take_length] at hw
      have := findI_end (p := fun s : Bs => !decide (s.length = 32)) (l := ss) (fun s hs => by simp [hw s hs])
      simp +contextual (maxSteps := 4000000) only [↓exT_call G47_32, ↓exT_callo G47_32, ↓exT_calloG G47_32, exO_callv G47_32, hxi, this, go_sem, Nat.reduceAdd, Nat.reduceSub, Nat.reduceMul, Nat.reduceEqDiff, Nat.reduceLeDiff, Nat.reduceLT, Nat.reduceBEq, Int.reduceLE, Int.reduceLT, Int.reduceToNat, Int.reduceNeg, Int.reduceAdd, Int.reduceSub, Int.reduceMul, ↓reduceIte]

def contSG_enc : (List Bs) × (Bool) → List V := fun ⟨ss, f⟩ => [.c (.s (.list 1 (encs strE ss) f)), .c (.s (.fn 32 []))]
theorem contSG_inj : ∀ x y, contSG_enc x = contSG_enc y → x = y := by
  rintro ⟨ss, f⟩ ⟨ss2, f2⟩ h
  simp only [contSG_enc, List.cons.injEq, V.c.injEq, V.agg.injEq, C.s.injEq, S.list.injEq, S.str.injEq, S.int.injEq, S.bool.injEq, S.fn.injEq, S.cref.injEq, strE_inj, true_and, and_true] at h
  simp_all
noncomputable def contSG : List V → Option (V) := specE contSG_enc (fun ⟨ss, f⟩ => ss.length < 4000000) (fun ⟨ss, f⟩ => .c (.s (.bool (ss.any fun s => !decide (s.length = 32)))))
theorem contSG_eq {ss : List Bs} {f : Bool} [Decidable (ss.length < 4000000)] : contSG [.c (.s (.list 1 (encs strE ss) f)), .c (.s (.fn 32 []))] = if ss.length < 4000000 then some (.c (.s (.bool (ss.any fun s => !decide (s.length = 32))))) else none := specE_eq contSG_inj (ss, f)
theorem contSG_call {ss : List Bs} {f : Bool} {gt : Bool} {K : V → Prop} : callE contSG [.c (.s (.list 1 (encs strE ss) f)), .c (.s (.fn 32 []))] gt K = ((gt = true → ss.length < 4000000) ∧ bindV (ifV gt (.c (.s (.bool (ss.any fun s => !decide (s.length = 32)))))) K) := by
  have := Classical.propDecidable (ss.length < 4000000)
  exact callE_of contSG_eq
theorem contSG_callo {ss : List Bs} {f : Bool} {m : Nat → Option Ab.Obj} {locs : List Nat} {K : V → (Nat → Option Ab.Obj) → Prop} : callO contSG (some [.c (.s (.list 1 (encs strE ss) f)), .c (.s (.fn 32 []))]) m locs K = ((ss.length < 4000000) ∧ K (.c (.s (.bool (ss.any fun s => !decide (s.length = 32))))) (sealW m locs (.c (.s (.bool (ss.any fun s => !decide (s.length = 32))))))) := by
  have := Classical.propDecidable (ss.length < 4000000)
  exact callO_of contSG_eq
attribute [go_sem] contSG_call contSG_callo

def sc_slices_ContainsFunc_string : SC := .seq (.reg [⟨some 4, .mv, [.k (.c (.s (.bool false)))], none⟩]) (.seq (.reg [⟨some 5, .mv, [.t 0], none⟩,
⟨some 6, .mv, [.t 1], none⟩,
⟨some 7, .call 47, [.t 5, .t 6], none⟩,
⟨some 8, .bin .geq, [.t 7, .k (.c (.s (.int .i64 0)))], none⟩,
⟨some 4, .mv, [.t 8], none⟩]) (.ret))
noncomputable def G_slices_ContainsFunc_string : FuncId → Ab.Spec := addS (noS) 47 (plain idxSG)
theorem G_slices_ContainsFunc_string_ok : ∀ f, Contract Try.prog f (G_slices_ContainsFunc_string f) := (addS_ok (noS_ok _) contract_slices_IndexFunc_string)
theorem G31_47 : G_slices_ContainsFunc_string 47 = plain idxSG := by simp [G_slices_ContainsFunc_string, addS]
set_option maxHeartbeats 16000000 in
set_option maxRecDepth 1000000 in
set_option linter.unusedSimpArgs false in
set_option linter.unusedVariables false in
theorem contract_slices_ContainsFunc_string : Contract Try.prog 31 (plain contSG) := by
  have hb : ∃ c, Try.f31.body = some c ∧ codeOk 9 c = true ∧ cCode Try.prog c = sc_slices_ContainsFunc_string := ⟨_, rfl, by kernel_rfl, by kernel_rfl⟩
  obtain ⟨c, hb1, hb2, hb3⟩ := hb
  refine contract_of (n := 2) G_slices_ContainsFunc_string_ok hB hD Try.func31 hb1 (by kernel_rfl) hb2 hb3 (rs := [.tmp 4]) (by kernel_rfl) (by decide) ?_ ?_
  · intro args x h
    obtain ⟨y, hy, -⟩ := Option.map_eq_some_iff.1 h
    obtain ⟨⟨ss, f⟩, rfl, -⟩ := specE_some hy
    rfl
  · intro args r hr
    obtain ⟨y, hy, rfl⟩ := Option.map_eq_some_iff.1 hr
    obtain ⟨⟨ss, f⟩, rfl, hc, rfl⟩ := specE_some hy
    clear hr hy
    have hc : ss.length < 4000000 := hc
    change awp _ _ (postQ _ (.v (.c (.s (.bool (ss.any fun s => !decide (s.length = 32))))))) _
    unfold contSG_enc sc_slices_ContainsFunc_string
    simp +contextual (maxSteps := 4000000) only [↓exT_call G31_47, ↓exT_callo G31_47, ↓exT_calloG G31_47, findI_ge, go_sem, Nat.reduceAdd, Nat.reduceSub, Nat.reduceMul, Nat.reduceEqDiff, Nat.reduceLeDiff, Nat.reduceLT, Nat.reduceBEq, Int.reduceLE, Int.reduceLT, Int.reduceToNat, Int.reduceNeg, Int.reduceAdd, Int.reduceSub, Int.reduceMul, ↓reduceIte]
    exact hc

def mayG_enc : (List Bs) × (List Wr) × (Bool) × (Bool) × (Int) × (Bs) → List V := fun ⟨ss, cs, f, g, a, t⟩ => [.agg [.s (.list 1 (encs strE ss) f), .s (.list 2 (encs wrE cs) g)], .agg [.s (.int .i64 a), .s (.str t)]]
theorem mayG_inj : ∀ x y, mayG_enc x = mayG_enc y → x = y := by
  rintro ⟨ss, cs, f, g, a, t⟩ ⟨ss2, cs2, f2, g2, a2, t2⟩ h
  simp only [mayG_enc, List.cons.injEq, V.c.injEq, V.agg.injEq, C.s.injEq, S.list.injEq, S.str.injEq, S.int.injEq, S.bool.injEq, S.fn.injEq, S.cref.injEq, strE_inj, true_and, and_true, wrE_inj] at h
  simp_all
noncomputable def mayG : List V → Option (V) := specE mayG_enc (fun ⟨ss, cs, f, g, a, t⟩ => True) (fun ⟨ss, cs, f, g, a, t⟩ => .c (.s (.bool (mayD ss.length ⟨a, t⟩))))
theorem mayG_eq {ss : List Bs} {cs : List Wr} {f : Bool} {g : Bool} {a : Int} {t : Bs} [Decidable (True)] : mayG [.agg [.s (.list 1 (encs strE ss) f), .s (.list 2 (encs wrE cs) g)], .agg [.s (.int .i64 a), .s (.str t)]] = if True then some (.c (.s (.bool (mayD ss.length ⟨a, t⟩)))) else none := specE_eq mayG_inj (ss, cs, f, g, a, t)
theorem mayG_call {ss : List Bs} {cs : List Wr} {f : Bool} {g : Bool} {a : Int} {t : Bs} {gt : Bool} {K : V → Prop} : callE mayG [.agg [.s (.list 1 (encs strE ss) f), .s (.list 2 (encs wrE cs) g)], .agg [.s (.int .i64 a), .s (.str t)]] gt K = bindV (ifV gt (.c (.s (.bool (mayD ss.length ⟨a, t⟩))))) K := callE_all (by rw [mayG_eq]; rfl)
theorem mayG_callo {ss : List Bs} {cs : List Wr} {f : Bool} {g : Bool} {a : Int} {t : Bs} {m : Nat → Option Ab.Obj} {locs : List Nat} {K : V → (Nat → Option Ab.Obj) → Prop} : callO mayG (some [.agg [.s (.list 1 (encs strE ss) f), .s (.list 2 (encs wrE cs) g)], .agg [.s (.int .i64 a), .s (.str t)]]) m locs K = K (.c (.s (.bool (mayD ss.length ⟨a, t⟩)))) (sealW m locs (.c (.s (.bool (mayD ss.length ⟨a, t⟩))))) := callO_all (by rw [mayG_eq]; rfl)
attribute [go_sem] mayG_call mayG_callo

def sc_disk_may : SC := .seq (.reg [⟨some 2, .box 2, [.t 0], none⟩,
⟨some 3, .box 2, [.t 1], none⟩,
⟨some 4, .mv, [.k (.c (.s (.bool false)))], none⟩]) (.seq (.reg [⟨some 5, .fadr 0, [.t 3], none⟩,
⟨some 6, .load 1 false, [.t 5], none⟩,
⟨some 7, .bin .geq, [.t 6, .k (.c (.s (.int .i64 0)))], none⟩,
⟨some 8, .mv, [.t 7], none⟩,
⟨some 9, .fadr 0, [.t 3], some (8, true)⟩,
⟨some 10, .load 1 false, [.t 9], some (8, true)⟩,
⟨some 11, .fadr 0, [.t 2], some (8, true)⟩,
⟨some 12, .load 1 false, [.t 11], some (8, true)⟩,
⟨some 13, .len false, [.t 12], some (8, true)⟩,
⟨some 14, .bin .lss, [.t 10, .t 13], some (8, true)⟩,
⟨some 15, .pick, [.t 8, .t 14, .k (.c (.s (.bool false)))], none⟩,
⟨some 16, .mv, [.t 15], none⟩,
⟨some 17, .fadr 1, [.t 3], some (16, true)⟩,
⟨some 18, .load 1 false, [.t 17], some (16, true)⟩,
⟨some 19, .len true, [.t 18], some (16, true)⟩,
⟨some 20, .bin .eql, [.t 19, .k (.c (.s (.int .i64 32)))], some (16, true)⟩,
⟨some 21, .pick, [.t 16, .t 20, .k (.c (.s (.bool false)))], none⟩,
⟨some 4, .mv, [.t 21], none⟩]) (.ret))
noncomputable def G_disk_may : FuncId → Ab.Spec := noS
theorem G_disk_may_ok : ∀ f, Contract Try.prog f (G_disk_may f) := (noS_ok _)
set_option maxHeartbeats 16000000 in
set_option maxRecDepth 1000000 in
set_option linter.unusedSimpArgs false in
set_option linter.unusedVariables false in
theorem contract_disk_may : Contract Try.prog 29 (plain mayG) := by
  have hb : ∃ c, Try.f29.body = some c ∧ codeOk 22 c = true ∧ cCode Try.prog c = sc_disk_may := ⟨_, rfl, by kernel_rfl, by kernel_rfl⟩
  obtain ⟨c, hb1, hb2, hb3⟩ := hb
  refine contract_of (n := 2) G_disk_may_ok hB hD Try.func29 hb1 (by kernel_rfl) hb2 hb3 (rs := [.tmp 4]) (by kernel_rfl) (by decide) ?_ ?_
  · intro args x h
    obtain ⟨y, hy, -⟩ := Option.map_eq_some_iff.1 h
    obtain ⟨⟨ss, cs, f, g, a, t⟩, rfl, -⟩ := specE_some hy
    rfl
  · intro args r hr
    obtain ⟨y, hy, rfl⟩ := Option.map_eq_some_iff.1 hr
    obtain ⟨⟨ss, cs, f, g, a, t⟩, rfl, hc, rfl⟩ := specE_some hy
    clear hr hy
    have hc : True := hc
    change awp _ _ (postQ _ (.v (.c (.s (.bool (mayD ss.length ⟨a, t⟩)))))) _
    unfold mayG_enc sc_disk_may
    simp +contextual (maxSteps := 4000000) only [go_sem, Nat.reduceAdd, Nat.reduceSub, Nat.reduceMul, Nat.reduceEqDiff, Nat.reduceLeDiff, Nat.reduceLT, Nat.reduceBEq, Int.reduceLE, Int.reduceLT, Int.reduceToNat, Int.reduceNeg, Int.reduceAdd, Int.reduceSub, Int.reduceMul, ↓reduceIte]
    have : decide ((t.length : Int) = 32) = decide (t.length = 32) := by rw [decide_eq_decide]; omega
    rw [this]; rfl

def right2G_enc : (List Bs) × (List Wr) × (Bool) × (Bool) × (Int) × (Bs) → List V := fun ⟨ss, cs, f, g, a, t⟩ => [.agg [.s (.int .i64 a), .s (.str t)], .c (.s (.cref [.list 1 (encs strE ss) f, .list 2 (encs wrE cs) g]))]
theorem right2G_inj : ∀ x y, right2G_enc x = right2G_enc y → x = y := by
  rintro ⟨ss, cs, f, g, a, t⟩ ⟨ss2, cs2, f2, g2, a2, t2⟩ h
  simp only [right2G_enc, List.cons.injEq, V.c.injEq, V.agg.injEq, C.s.injEq, S.list.injEq, S.str.injEq, S.int.injEq, S.bool.injEq, S.fn.injEq, S.cref.injEq, strE_inj, true_and, and_true, wrE_inj] at h
  simp_all
noncomputable def right2G : List V → Option (V) := specE right2G_enc (fun ⟨ss, cs, f, g, a, t⟩ => True) (fun ⟨ss, cs, f, g, a, t⟩ => .c (.s (.bool (!mayD ss.length ⟨a, t⟩))))
theorem right2G_eq {ss : List Bs} {cs : List Wr} {f : Bool} {g : Bool} {a : Int} {t : Bs} [Decidable (True)] : right2G [.agg [.s (.int .i64 a), .s (.str t)], .c (.s (.cref [.list 1 (encs strE ss) f, .list 2 (encs wrE cs) g]))] = if True then some (.c (.s (.bool (!mayD ss.length ⟨a, t⟩)))) else none := specE_eq right2G_inj (ss, cs, f, g, a, t)
theorem right2G_call {ss : List Bs} {cs : List Wr} {f : Bool} {g : Bool} {a : Int} {t : Bs} {gt : Bool} {K : V → Prop} : callE right2G [.agg [.s (.int .i64 a), .s (.str t)], .c (.s (.cref [.list 1 (encs strE ss) f, .list 2 (encs wrE cs) g]))] gt K = bindV (ifV gt (.c (.s (.bool (!mayD ss.length ⟨a, t⟩))))) K := callE_all (by rw [right2G_eq]; rfl)
theorem right2G_callo {ss : List Bs} {cs : List Wr} {f : Bool} {g : Bool} {a : Int} {t : Bs} {m : Nat → Option Ab.Obj} {locs : List Nat} {K : V → (Nat → Option Ab.Obj) → Prop} : callO right2G (some [.agg [.s (.int .i64 a), .s (.str t)], .c (.s (.cref [.list 1 (encs strE ss) f, .list 2 (encs wrE cs) g]))]) m locs K = K (.c (.s (.bool (!mayD ss.length ⟨a, t⟩)))) (sealW m locs (.c (.s (.bool (!mayD ss.length ⟨a, t⟩))))) := callO_all (by rw [right2G_eq]; rfl)
attribute [go_sem] right2G_call right2G_callo

def sc_disk_Right_2 : SC := .seq (.reg [⟨some 2, .box 2, [.t 0], none⟩,
⟨some 3, .mv, [.k (.c (.s (.bool false)))], none⟩]) (.seq (.reg [⟨some 4, .load 2 true, [.t 1], none⟩,
⟨some 5, .load 2 true, [.t 2], none⟩,
⟨some 6, .call 29, [.t 4, .t 5], none⟩,
⟨some 7, .not, [.t 6], none⟩,
⟨some 3, .mv, [.t 7], none⟩]) (.ret))
noncomputable def G_disk_Right_2 : FuncId → Ab.Spec := addS (noS) 29 (plain mayG)
theorem G_disk_Right_2_ok : ∀ f, Contract Try.prog f (G_disk_Right_2 f) := (addS_ok (noS_ok _) contract_disk_may)
theorem G34_29 : G_disk_Right_2 29 = plain mayG := by simp [G_disk_Right_2, addS]
set_option maxHeartbeats 16000000 in
set_option maxRecDepth 1000000 in
set_option linter.unusedSimpArgs false in
set_option linter.unusedVariables false in
theorem contract_disk_Right_2 : Contract Try.prog 34 (plain right2G) := by
  have hb : ∃ c, Try.f34.body = some c ∧ codeOk 8 c = true ∧ cCode Try.prog c = sc_disk_Right_2 := ⟨_, rfl, by kernel_rfl, by kernel_rfl⟩
  obtain ⟨c, hb1, hb2, hb3⟩ := hb
  refine contract_of (n := 2) G_disk_Right_2_ok hB hD Try.func34 hb1 (by kernel_rfl) hb2 hb3 (rs := [.tmp 3]) (by kernel_rfl) (by decide) ?_ ?_
  · intro args x h
    obtain ⟨y, hy, -⟩ := Option.map_eq_some_iff.1 h
    obtain ⟨⟨ss, cs, f, g, a, t⟩, rfl, -⟩ := specE_some hy
    rfl
  · intro args r hr
    obtain ⟨y, hy, rfl⟩ := Option.map_eq_some_iff.1 hr
    obtain ⟨⟨ss, cs, f, g, a, t⟩, rfl, hc, rfl⟩ := specE_some hy
    clear hr hy
    have hc : True := hc
    change awp _ _ (postQ _ (.v (.c (.s (.bool (!mayD ss.length ⟨a, t⟩)))))) _
    unfold right2G_enc sc_disk_Right_2
    simp +contextual (maxSteps := 4000000) only [↓exT_call G34_29, ↓exT_callo G34_29, ↓exT_calloG G34_29, go_sem, Nat.reduceAdd, Nat.reduceSub, Nat.reduceMul, Nat.reduceEqDiff, Nat.reduceLeDiff, Nat.reduceLT, Nat.reduceBEq, Int.reduceLE, Int.reduceLT, Int.reduceToNat, Int.reduceNeg, Int.reduceAdd, Int.reduceSub, Int.reduceMul, ↓reduceIte]

def idxWG_enc : (List Wr) × (Bool) × (List Bs) × (List Wr) × (Bool) × (Bool) → List V := fun ⟨ws, h, ss, cs, f, g⟩ => [.c (.s (.list 2 (encs wrE ws) h)), .c (.s (.fn 34 [.cref [.list 1 (encs strE ss) f, .list 2 (encs wrE cs) g]]))]
theorem idxWG_inj : ∀ x y, idxWG_enc x = idxWG_enc y → x = y := by
  rintro ⟨ws, h, ss, cs, f, g⟩ ⟨ws2, h2, ss2, cs2, f2, g2⟩ h
  simp only [idxWG_enc, List.cons.injEq, V.c.injEq, V.agg.injEq, C.s.injEq, S.list.injEq, S.str.injEq, S.int.injEq, S.bool.injEq, S.fn.injEq, S.cref.injEq, strE_inj, true_and, and_true, wrE_inj] at h
  simp_all
noncomputable def idxWG : List V → Option (V) := specE idxWG_enc (fun ⟨ws, h, ss, cs, f, g⟩ => ws.length < 4000000) (fun ⟨ws, h, ss, cs, f, g⟩ => .c (.s (.int .i64 (findI (fun w => !mayD ss.length w) ws))))
theorem idxWG_eq {ws : List Wr} {h : Bool} {ss : List Bs} {cs : List Wr} {f : Bool} {g : Bool} [Decidable (ws.length < 4000000)] : idxWG [.c (.s (.list 2 (encs wrE ws) h)), .c (.s (.fn 34 [.cref [.list 1 (encs strE ss) f, .list 2 (encs wrE cs) g]]))] = if ws.length < 4000000 then some (.c (.s (.int .i64 (findI (fun w => !mayD ss.length w) ws)))) else none := specE_eq idxWG_inj (ws, h, ss, cs, f, g)
theorem idxWG_call {ws : List Wr} {h : Bool} {ss : List Bs} {cs : List Wr} {f : Bool} {g : Bool} {gt : Bool} {K : V → Prop} : callE idxWG [.c (.s (.list 2 (encs wrE ws) h)), .c (.s (.fn 34 [.cref [.list 1 (encs strE ss) f, .list 2 (encs wrE cs) g]]))] gt K = ((gt = true → ws.length < 4000000) ∧ bindV (ifV gt (.c (.s (.int .i64 (findI (fun w => !mayD ss.length w) ws))))) K) := by
  have := Classical.propDecidable (ws.length < 4000000)
  exact callE_of idxWG_eq
theorem idxWG_callo {ws : List Wr} {h : Bool} {ss : List Bs} {cs : List Wr} {f : Bool} {g : Bool} {m : Nat → Option Ab.Obj} {locs : List Nat} {K : V → (Nat → Option Ab.Obj) → Prop} : callO idxWG (some [.c (.s (.list 2 (encs wrE ws) h)), .c (.s (.fn 34 [.cref [.list 1 (encs strE ss) f, .list 2 (encs wrE cs) g]]))]) m locs K = ((ws.length < 4000000) ∧ K (.c (.s (.int .i64 (findI (fun w => !mayD ss.length w) ws)))) (sealW m locs (.c (.s (.int .i64 (findI (fun w => !mayD ss.length w) ws)))))) := by
  have := Classical.propDecidable (ws.length < 4000000)
  exact callO_of idxWG_eq
attribute [go_sem] idxWG_call idxWG_callo

def sc_slices_IndexFunc_diskWrite : SC := .seq (.reg [⟨some 4, .mv, [.k (.c (.s (.int .i64 0)))], none⟩]) (.seq (.seq (.reg [⟨some 6, .mv, [.t 0], none⟩,
⟨some 7, .len false, [.t 6], none⟩,
⟨some 8, .mv, [.k (.c (.s (.int .i64 0)))], none⟩]) (.block 0 (.loop (.seq (.reg [⟨some 9, .bin .lss, [.t 8, .t 7], none⟩]) (.seq (.cond (.t 9) (.skip) (.exit 0)) (.seq (.block 1 (.seq (.reg [⟨some 10, .mv, [.t 8], none⟩,
⟨some 5, .mv, [.t 10], none⟩]) (.seq (.reg [⟨some 11, .mv, [.t 1], none⟩,
⟨some 12, .mv, [.t 0], none⟩,
⟨some 13, .mv, [.t 5], none⟩,
⟨some 14, .iadr 2, [.t 12, .t 13], none⟩,
⟨some 15, .load 2 true, [.t 14], none⟩,
⟨some 16, .callv, [.t 11, .t 15], none⟩]) (.cond (.t 16) (.seq (.reg [⟨some 17, .mv, [.t 5], none⟩,
⟨some 4, .mv, [.t 17], none⟩]) (.ret)) (.skip))))) (.reg [⟨some 18, .bin .add, [.t 8, .k (.c (.s (.int .i64 1)))], none⟩,
⟨some 8, .mv, [.t 18], none⟩]))))))) (.seq (.reg [⟨some 4, .mv, [.k (.c (.s (.int .i64 (-1))))], none⟩]) (.ret)))
noncomputable def G_slices_IndexFunc_diskWrite : FuncId → Ab.Spec := addS (noS) 34 (plain right2G)
theorem G_slices_IndexFunc_diskWrite_ok : ∀ f, Contract Try.prog f (G_slices_IndexFunc_diskWrite f) := (addS_ok (noS_ok _) contract_disk_Right_2)
theorem G48_34 : G_slices_IndexFunc_diskWrite 34 = plain right2G := by simp [G_slices_IndexFunc_diskWrite, addS]
set_option maxHeartbeats 16000000 in
set_option maxRecDepth 1000000 in
set_option linter.unusedSimpArgs false in
set_option linter.unusedVariables false in
theorem contract_slices_IndexFunc_diskWrite : Contract Try.prog 48 (plain idxWG) := by
  have hb : ∃ c, Try.f48.body = some c ∧ codeOk 19 c = true ∧ cCode Try.prog c = sc_slices_IndexFunc_diskWrite := ⟨_, rfl, by kernel_rfl, by kernel_rfl⟩
  obtain ⟨c, hb1, hb2, hb3⟩ := hb
  refine contract_of (n := 2) G_slices_IndexFunc_diskWrite_ok hB hD Try.func48 hb1 (by kernel_rfl) hb2 hb3 (rs := [.tmp 4]) (by kernel_rfl) (by decide) ?_ ?_
  · intro args x h
    obtain ⟨y, hy, -⟩ := Option.map_eq_some_iff.1 h
    obtain ⟨⟨ws, h, ss, cs, f, g⟩, rfl, -⟩ := specE_some hy
    rfl
  · intro args r hr
    obtain ⟨y, hy, rfl⟩ := Option.map_eq_some_iff.1 hr
    obtain ⟨⟨ws, h, ss, cs, f, g⟩, rfl, hc, rfl⟩ := specE_some hy
    clear hr hy
    have hc : ws.length < 4000000 := hc
    change awp _ _ (postQ _ (.v (.c (.s (.int .i64 (findI (fun w => !mayD ss.length w) ws)))))) _
    unfold idxWG_enc sc_slices_IndexFunc_diskWrite
    simp +contextual (maxSteps := 4000000) only [↓exT_call G48_34, ↓exT_callo G48_34, ↓exT_calloG G48_34, exO_callv G48_34, go_sem, Nat.reduceAdd, Nat.reduceSub, Nat.reduceMul, Nat.reduceEqDiff, Nat.reduceLeDiff, Nat.reduceLT, Nat.reduceBEq, Int.reduceLE, Int.reduceLT, Int.reduceToNat, Int.reduceNeg, Int.reduceAdd, Int.reduceSub, Int.reduceMul, ↓reduceIte]
    refine awp_loopM (α := Nat) (fun i => [(0, .c (.s (.list 2 (encs wrE ws) h))), (1, .c (.s (.fn 34 [.cref [.list 1 (encs strE ss) f, .list 2 (encs wrE cs) g]]))), (7, .c (.s (.int .i64 ws.length))), (8, .c (.s (.int .i64 i)))]) (fun _ => []) (fun i => ws.length - i) 0 (fun i => i ≤ ws.length ∧ ∀ w ∈ ws.take i, mayD ss.length w = true) ⟨Nat.zero_le _, by simp⟩ (Weak.meets ?_) ?_
    · simp +contextual (maxSteps := 4000000) only [↓exT_call G48_34, ↓exT_callo G48_34, ↓exT_calloG G48_34, exO_callv G48_34, go_sem, Nat.reduceAdd, Nat.reduceSub, Nat.reduceMul, Nat.reduceEqDiff, Nat.reduceLeDiff, Nat.reduceLT, Nat.reduceBEq, Int.reduceLE, Int.reduceLT, Int.reduceToNat, Int.reduceNeg, Int.reduceAdd, Int.reduceSub, Int.reduceMul, ↓reduceIte]
      simp
    rintro x ⟨hx, hw⟩
    by_cases hxl : x < ws.length
    · have hxi : (x : Int) < (ws.length : Int) := by omega
      cases hp : mayD ss.length (ws.getD x default) with
      | true =>
        simp +contextual (maxSteps := 4000000) only [↓exT_call G48_34, ↓exT_callo G48_34, ↓exT_calloG G48_34, exO_callv G48_34, hxi, hp, go_sem, Nat.reduceAdd, Nat.reduceSub, Nat.reduceMul, Nat.reduceEqDiff, Nat.reduceLeDiff, Nat.reduceLT, Nat.reduceBEq, Int.reduceLE, Int.reduceLT, Int.reduceToNat, Int.reduceNeg, Int.reduceAdd, Int.reduceSub, Int.reduceMul, ↓reduceIte]
        exact ⟨by omega, x + 1, ⟨by omega, take_all hxl hw hp⟩, by omega, by omega⟩
      | false =>
        have := findI_hit (p := fun w : Wr => !mayD ss.length w) hxl (fun w h => by simp [hw w h]) (by rw [hp]; rfl)
        simp +contextual (maxSteps := 4000000) only [↓exT_call G48_34, ↓exT_callo G48_34, ↓exT_calloG G48_34, exO_callv G48_34, hxi, hp, this, go_sem, Nat.reduceAdd, Nat.reduceSub, Nat.reduceMul, Nat.reduceEqDiff, Nat.reduceLeDiff, Nat.reduceLT, Nat.reduceBEq, Int.reduceLE, Int.reduceLT, Int.reduceToNat, Int.reduceNeg, Int.reduceAdd, Int.reduceSub, Int.reduceMul, ↓reduceIte]
    · have hxi : ¬ (x : Int) < (ws.length : Int) := by omega
      obtain rfl : x = ws.length := by omega
      rw [List.take_length] at hw
      have := findI_end (p := fun w : Wr => !mayD ss.length w) (l := ws) (fun w h => by simp [hw w h])
      simp +contextual (maxSteps := 4000000) only [↓exT_call G48_34, ↓exT_callo G48_34, ↓exT_calloG G48_34, exO_callv G48_34, hxi, this, go_sem, Nat.reduceAdd, Nat.reduceSub, Nat.reduceMul, Nat.reduceEqDiff, Nat.reduceLeDiff, Nat.reduceLT, Nat.reduceBEq, Int.reduceLE, Int.reduceLT, Int.reduceToNat, Int.reduceNeg, Int.reduceAdd, Int.reduceSub, Int.reduceMul, ↓reduceIte]

def contWG_enc : (List Wr) × (Bool) × (List Bs) × (List Wr) × (Bool) × (Bool) → List V := fun ⟨ws, h, ss, cs, f, g⟩ => [.c (.s (.list 2 (encs wrE ws) h)), .c (.s (.fn 34 [.cref [.list 1 (encs strE ss) f, .list 2 (encs wrE cs) g]]))]
theorem contWG_inj : ∀ x y, contWG_enc x = contWG_enc y → x = y := by
  rintro ⟨ws, h, ss, cs, f, g⟩ ⟨ws2, h2, ss2, cs2, f2, g2⟩ h
  simp only [contWG_enc, List.cons.injEq, V.c.injEq, V.agg.injEq, C.s.injEq, S.list.injEq, S.str.injEq, S.int.injEq, S.bool.injEq, S.fn.injEq, S.cref.injEq, strE_inj, true_and, and_true, wrE_inj] at h
  simp_all
noncomputable def contWG : List V → Option (V) := specE contWG_enc (fun ⟨ws, h, ss, cs, f, g⟩ => ws.length < 4000000) (fun ⟨ws, h, ss, cs, f, g⟩ => .c (.s (.bool (ws.any fun w => !mayD ss.length w))))
theorem contWG_eq {ws : List Wr} {h : Bool} {ss : List Bs} {cs : List Wr} {f : Bool} {g : Bool} [Decidable (ws.length < 4000000)] : contWG [.c (.s (.list 2 (encs wrE ws) h)), .c (.s (.fn 34 [.cref [.list 1 (encs strE ss) f, .list 2 (encs wrE cs) g]]))] = if ws.length < 4000000 then some (.c (.s (.bool (ws.any fun w => !mayD ss.length w)))) else none := specE_eq contWG_inj (ws, h, ss, cs, f, g)
theorem contWG_call {ws : List Wr} {h : Bool} {ss : List Bs} {cs : List Wr} {f : Bool} {g : Bool} {gt : Bool} {K : V → Prop} : callE contWG [.c (.s (.list 2 (encs wrE ws) h)), .c (.s (.fn 34 [.cref [.list 1 (encs strE ss) f, .list 2 (encs wrE cs) g]]))] gt K = ((gt = true → ws.length < 4000000) ∧ bindV (ifV gt (.c (.s (.bool (ws.any fun w => !mayD ss.length w))))) K) := by
  have := Classical.propDecidable (ws.length < 4000000)
  exact callE_of contWG_eq
theorem contWG_callo {ws : List Wr} {h : Bool} {ss : List Bs} {cs : List Wr} {f : Bool} {g : Bool} {m : Nat → Option Ab.Obj} {locs : List Nat} {K : V → (Nat → Option Ab.Obj) → Prop} : callO contWG (some [.c (.s (.list 2 (encs wrE ws) h)), .c (.s (.fn 34 [.cref [.list 1 (encs strE ss) f, .list 2 (encs wrE cs) g]]))]) m locs K = ((ws.length < 4000000) ∧ K (.c (.s (.bool (ws.any fun w => !mayD ss.length w)))) (sealW m locs (.c (.s (.bool (ws.any fun w => !mayD ss.length w)))))) := by
  have := Classical.propDecidable (ws.length < 4000000)
  exact callO_of contWG_eq
attribute [go_sem] contWG_call contWG_callo

def sc_slices_ContainsFunc_diskWrite : SC := .seq (.reg [⟨some 4, .mv, [.k (.c (.s (.bool false)))], none⟩]) (.seq (.reg [⟨some 5, .mv, [.t 0], none⟩,
⟨some 6, .mv, [.t 1], none⟩,
⟨some 7, .call 48, [.t 5, .t 6], none⟩,
⟨some 8, .bin .geq, [.t 7, .k (.c (.s (.int .i64 0)))], none⟩,
⟨some 4, .mv, [.t 8], none⟩]) (.ret))
noncomputable def G_slices_ContainsFunc_diskWrite : FuncId → Ab.Spec := addS (noS) 48 (plain idxWG)
theorem G_slices_ContainsFunc_diskWrite_ok : ∀ f, Contract Try.prog f (G_slices_ContainsFunc_diskWrite f) := (addS_ok (noS_ok _) contract_slices_IndexFunc_diskWrite)
theorem G33_48 : G_slices_ContainsFunc_diskWrite 48 = plain idxWG := by simp [G_slices_ContainsFunc_diskWrite, addS]
set_option maxHeartbeats 16000000 in
set_option maxRecDepth 1000000 in
set_option linter.unusedSimpArgs false in
set_option linter.unusedVariables false in
theorem contract_slices_ContainsFunc_diskWrite : Contract Try.prog 33 (plain contWG) := by
  have hb : ∃ c, Try.f33.body = some c ∧ codeOk 9 c = true ∧ cCode Try.prog c = sc_slices_ContainsFunc_diskWrite := ⟨_, rfl, by kernel_rfl, by kernel_rfl⟩
  obtain ⟨c, hb1, hb2, hb3⟩ := hb
  refine contract_of (n := 2) G_slices_ContainsFunc_diskWrite_ok hB hD Try.func33 hb1 (by kernel_rfl) hb2 hb3 (rs := [.tmp 4]) (by kernel_rfl) (by decide) ?_ ?_
  · intro args x h
    obtain ⟨y, hy, -⟩ := Option.map_eq_some_iff.1 h
    obtain ⟨⟨ws, h, ss, cs, f, g⟩, rfl, -⟩ := specE_some hy
    rfl
  · intro args r hr
    obtain ⟨y, hy, rfl⟩ := Option.map_eq_some_iff.1 hr
    obtain ⟨⟨ws, h, ss, cs, f, g⟩, rfl, hc, rfl⟩ := specE_some hy
    clear hr hy
    have hc : ws.length < 4000000 := hc
    change awp _ _ (postQ _ (.v (.c (.s (.bool (ws.any fun w => !mayD ss.length w)))))) _
    unfold contWG_enc sc_slices_ContainsFunc_diskWrite
    simp +contextual (maxSteps := 4000000) only [↓exT_call G33_48, ↓exT_callo G33_48, ↓exT_calloG G33_48, findI_ge, go_sem, Nat.reduceAdd, Nat.reduceSub, Nat.reduceMul, Nat.reduceEqDiff, Nat.reduceLeDiff, Nat.reduceLT, Nat.reduceBEq, Int.reduceLE, Int.reduceLT, Int.reduceToNat, Int.reduceNeg, Int.reduceAdd, Int.reduceSub, Int.reduceMul, ↓reduceIte]
    exact hc

def rightG_enc : (List Bs) × (List Wr) × (Bool) × (Bool) → List V := fun ⟨ss, cs, f, g⟩ => [.agg [.s (.list 1 (encs strE ss) f), .s (.list 2 (encs wrE cs) g)]]
theorem rightG_inj : ∀ x y, rightG_enc x = rightG_enc y → x = y := by
  rintro ⟨ss, cs, f, g⟩ ⟨ss2, cs2, f2, g2⟩ h
  simp only [rightG_enc, List.cons.injEq, V.c.injEq, V.agg.injEq, C.s.injEq, S.list.injEq, S.str.injEq, S.int.injEq, S.bool.injEq, S.fn.injEq, S.cref.injEq, strE_inj, true_and, and_true, wrE_inj] at h
  simp_all
noncomputable def rightG : List V → Option (V) := specE rightG_enc (fun ⟨ss, cs, f, g⟩ => ss.length < 4000000 ∧ cs.length < 4000000) (fun ⟨ss, cs, f, g⟩ => .c (.s (.bool (rightD ⟨ss, cs⟩))))
theorem rightG_eq {ss : List Bs} {cs : List Wr} {f : Bool} {g : Bool} [Decidable (ss.length < 4000000 ∧ cs.length < 4000000)] : rightG [.agg [.s (.list 1 (encs strE ss) f), .s (.list 2 (encs wrE cs) g)]] = if ss.length < 4000000 ∧ cs.length < 4000000 then some (.c (.s (.bool (rightD ⟨ss, cs⟩)))) else none := specE_eq rightG_inj (ss, cs, f, g)
theorem rightG_call {ss : List Bs} {cs : List Wr} {f : Bool} {g : Bool} {gt : Bool} {K : V → Prop} : callE rightG [.agg [.s (.list 1 (encs strE ss) f), .s (.list 2 (encs wrE cs) g)]] gt K = ((gt = true → ss.length < 4000000 ∧ cs.length < 4000000) ∧ bindV (ifV gt (.c (.s (.bool (rightD ⟨ss, cs⟩))))) K) := by
  have := Classical.propDecidable (ss.length < 4000000 ∧ cs.length < 4000000)
  exact callE_of rightG_eq
theorem rightG_callo {ss : List Bs} {cs : List Wr} {f : Bool} {g : Bool} {m : Nat → Option Ab.Obj} {locs : List Nat} {K : V → (Nat → Option Ab.Obj) → Prop} : callO rightG (some [.agg [.s (.list 1 (encs strE ss) f), .s (.list 2 (encs wrE cs) g)]]) m locs K = ((ss.length < 4000000 ∧ cs.length < 4000000) ∧ K (.c (.s (.bool (rightD ⟨ss, cs⟩)))) (sealW m locs (.c (.s (.bool (rightD ⟨ss, cs⟩)))))) := by
  have := Classical.propDecidable (ss.length < 4000000 ∧ cs.length < 4000000)
  exact callO_of rightG_eq
attribute [go_sem] rightG_call rightG_callo

def sc_disk_Right : SC := .seq (.reg [⟨some 1, .box 2, [.t 0], none⟩,
⟨some 2, .mv, [.k (.c (.s (.bool false)))], none⟩]) (.seq (.reg [⟨some 3, .fadr 0, [.t 1], none⟩,
⟨some 4, .load 1 false, [.t 3], none⟩,
⟨some 5, .len false, [.t 4], none⟩,
⟨some 6, .bin .geq, [.t 5, .k (.c (.s (.int .i64 1)))], none⟩,
⟨some 7, .mv, [.t 6], none⟩,
⟨some 8, .fadr 0, [.t 1], some (7, true)⟩,
⟨some 9, .load 1 false, [.t 8], some (7, true)⟩,
⟨some 10, .len false, [.t 9], some (7, true)⟩,
⟨some 11, .bin .leq, [.t 10, .k (.c (.s (.int .i64 300)))], some (7, true)⟩,
⟨some 12, .pick, [.t 7, .t 11, .k (.c (.s (.bool false)))], none⟩,
⟨some 13, .mv, [.t 12], none⟩,
⟨some 14, .fadr 1, [.t 1], some (13, true)⟩,
⟨some 15, .load 1 false, [.t 14], some (13, true)⟩,
⟨some 16, .len false, [.t 15], some (13, true)⟩,
⟨some 17, .bin .leq, [.t 16, .k (.c (.s (.int .i64 700)))], some (13, true)⟩,
⟨some 18, .pick, [.t 13, .t 17, .k (.c (.s (.bool false)))], none⟩,
⟨some 19, .mv, [.t 18], none⟩,
⟨some 20, .fadr 0, [.t 1], some (19, true)⟩,
⟨some 21, .load 1 false, [.t 20], some (19, true)⟩,
⟨some 22, .call 31, [.t 21, .k (.c (.s (.fn 32 [])))], some (19, true)⟩,
⟨some 23, .not, [.t 22], some (19, true)⟩,
⟨some 24, .pick, [.t 19, .t 23, .k (.c (.s (.bool false)))], none⟩,
⟨some 25, .mv, [.t 24], none⟩,
⟨some 26, .fadr 1, [.t 1], some (25, true)⟩,
⟨some 27, .load 1 false, [.t 26], some (25, true)⟩,
⟨some 28, .mkfn 34, [.t 1], some (25, true)⟩,
⟨some 29, .call 33, [.t 27, .t 28], some (25, true)⟩,
⟨some 30, .not, [.t 29], some (25, true)⟩,
⟨some 31, .pick, [.t 25, .t 30, .k (.c (.s (.bool false)))], none⟩,
⟨some 2, .mv, [.t 31], none⟩]) (.ret))
noncomputable def G_disk_Right : FuncId → Ab.Spec := addS (addS (addS (addS (noS) 31 (plain contSG)) 32 (plain right1G)) 34 (plain right2G)) 33 (plain contWG)
theorem G_disk_Right_ok : ∀ f, Contract Try.prog f (G_disk_Right f) := (addS_ok (addS_ok (addS_ok (addS_ok (noS_ok _) contract_slices_ContainsFunc_string) contract_disk_Right_1) contract_disk_Right_2) contract_slices_ContainsFunc_diskWrite)
theorem G17_31 : G_disk_Right 31 = plain contSG := by simp [G_disk_Right, addS]
theorem G17_32 : G_disk_Right 32 = plain right1G := by simp [G_disk_Right, addS]
theorem G17_34 : G_disk_Right 34 = plain right2G := by simp [G_disk_Right, addS]
theorem G17_33 : G_disk_Right 33 = plain contWG := by simp [G_disk_Right, addS]
set_option maxHeartbeats 16000000 in
set_option maxRecDepth 1000000 in
set_option linter.unusedSimpArgs false in
set_option linter.unusedVariables false in
theorem contract_disk_Right : Contract Try.prog 17 (plain rightG) := by
  have hb : ∃ c, Try.f17.body = some c ∧ codeOk 32 c = true ∧ cCode Try.prog c = sc_disk_Right := ⟨_, rfl, by kernel_rfl, by kernel_rfl⟩
  obtain ⟨c, hb1, hb2, hb3⟩ := hb
  refine contract_of (n := 1) G_disk_Right_ok hB hD Try.func17 hb1 (by kernel_rfl) hb2 hb3 (rs := [.tmp 2]) (by kernel_rfl) (by decide) ?_ ?_
  · intro args x h
    obtain ⟨y, hy, -⟩ := Option.map_eq_some_iff.1 h
    obtain ⟨⟨ss, cs, f, g⟩, rfl, -⟩ := specE_some hy
    rfl
  · intro args r hr
    obtain ⟨y, hy, rfl⟩ := Option.map_eq_some_iff.1 hr
    obtain ⟨⟨ss, cs, f, g⟩, rfl, hc, rfl⟩ := specE_some hy
    clear hr hy
    have hc : ss.length < 4000000 ∧ cs.length < 4000000 := hc
    change awp _ _ (postQ _ (.v (.c (.s (.bool (rightD ⟨ss, cs⟩)))))) _
    unfold rightG_enc sc_disk_Right
    have e0 : (ss.any fun s => !decide (s.length = 32)) = !ss.all fun s => decide (s.length = 32) := by rw [← any_not_all, Bool.not_not]
    have e1 : (cs.any fun w => !mayD ss.length w) = !cs.all (mayD ss.length) := by rw [← any_not_all, Bool.not_not]
    have hr : rightD ⟨ss, cs⟩ = (decide (1 ≤ (ss.length : Int)) && decide ((ss.length : Int) ≤ 300) && decide ((cs.length : Int) ≤ 700) && ss.all (fun s => decide (s.length = 32)) && cs.all (mayD ss.length)) := by
      have h1 : decide (1 ≤ (ss.length : Int)) = decide (1 ≤ ss.length) := by rw [decide_eq_decide]; omega
      have h2 : decide ((ss.length : Int) ≤ 300) = decide (ss.length ≤ 300) := by rw [decide_eq_decide]; omega
      have h3 : decide ((cs.length : Int) ≤ 700) = decide (cs.length ≤ 700) := by rw [decide_eq_decide]; omega
      rw [h1, h2, h3]; rfl
    generalize ha : (ss.all fun s => decide (s.length = 32)) = A at *
    generalize hb : (cs.all (mayD ss.length)) = B at *
    by_cases h1 : 1 ≤ (ss.length : Int)
    case neg => simp +contextual (maxSteps := 4000000) only [↓exT_call G17_31, ↓exT_callo G17_31, ↓exT_calloG G17_31, ↓exT_call G17_32, ↓exT_callo G17_32, ↓exT_calloG G17_32, ↓exT_call G17_34, ↓exT_callo G17_34, ↓exT_calloG G17_34, ↓exT_call G17_33, ↓exT_callo G17_33, ↓exT_calloG G17_33, h1, hr, go_sem, Nat.reduceAdd, Nat.reduceSub, Nat.reduceMul, Nat.reduceEqDiff, Nat.reduceLeDiff, Nat.reduceLT, Nat.reduceBEq, Int.reduceLE, Int.reduceLT, Int.reduceToNat, Int.reduceNeg, Int.reduceAdd, Int.reduceSub, Int.reduceMul, ↓reduceIte]
    by_cases h2 : (ss.length : Int) ≤ 300
    case neg => simp +contextual (maxSteps := 4000000) only [↓exT_call G17_31, ↓exT_callo G17_31, ↓exT_calloG G17_31, ↓exT_call G17_32, ↓exT_callo G17_32, ↓exT_calloG G17_32, ↓exT_call G17_34, ↓exT_callo G17_34, ↓exT_calloG G17_34, ↓exT_call G17_33, ↓exT_callo G17_33, ↓exT_calloG G17_33, h1, h2, hr, go_sem, Nat.reduceAdd, Nat.reduceSub, Nat.reduceMul, Nat.reduceEqDiff, Nat.reduceLeDiff, Nat.reduceLT, Nat.reduceBEq, Int.reduceLE, Int.reduceLT, Int.reduceToNat, Int.reduceNeg, Int.reduceAdd, Int.reduceSub, Int.reduceMul, ↓reduceIte]
    by_cases h3 : (cs.length : Int) ≤ 700
    case neg => simp +contextual (maxSteps := 4000000) only [↓exT_call G17_31, ↓exT_callo G17_31, ↓exT_calloG G17_31, ↓exT_call G17_32, ↓exT_callo G17_32, ↓exT_calloG G17_32, ↓exT_call G17_34, ↓exT_callo G17_34, ↓exT_calloG G17_34, ↓exT_call G17_33, ↓exT_callo G17_33, ↓exT_calloG G17_33, h1, h2, h3, hr, go_sem, Nat.reduceAdd, Nat.reduceSub, Nat.reduceMul, Nat.reduceEqDiff, Nat.reduceLeDiff, Nat.reduceLT, Nat.reduceBEq, Int.reduceLE, Int.reduceLT, Int.reduceToNat, Int.reduceNeg, Int.reduceAdd, Int.reduceSub, Int.reduceMul, ↓reduceIte]
    cases A with
    | false => simp +contextual (maxSteps := 4000000) only [↓exT_call G17_31, ↓exT_callo G17_31, ↓exT_calloG G17_31, ↓exT_call G17_32, ↓exT_callo G17_32, ↓exT_calloG G17_32, ↓exT_call G17_34, ↓exT_callo G17_34, ↓exT_calloG G17_34, ↓exT_call G17_33, ↓exT_callo G17_33, ↓exT_calloG G17_33, h1, h2, h3, hr, e0, e1, hc.1, hc.2, go_sem, Nat.reduceAdd, Nat.reduceSub, Nat.reduceMul, Nat.reduceEqDiff, Nat.reduceLeDiff, Nat.reduceLT, Nat.reduceBEq, Int.reduceLE, Int.reduceLT, Int.reduceToNat, Int.reduceNeg, Int.reduceAdd, Int.reduceSub, Int.reduceMul, ↓reduceIte]
    | true => simp +contextual (maxSteps := 4000000) only [↓exT_call G17_31, ↓exT_callo G17_31, ↓exT_calloG G17_31, ↓exT_call G17_32, ↓exT_callo G17_32, ↓exT_calloG G17_32, ↓exT_call G17_34, ↓exT_callo G17_34, ↓exT_calloG G17_34, ↓exT_call G17_33, ↓exT_callo G17_33, ↓exT_calloG G17_33, h1, h2, h3, hr, e0, e1, hc.1, hc.2, go_sem, Nat.reduceAdd, Nat.reduceSub, Nat.reduceMul, Nat.reduceEqDiff, Nat.reduceLeDiff, Nat.reduceLT, Nat.reduceBEq, Int.reduceLE, Int.reduceLT, Int.reduceToNat, Int.reduceNeg, Int.reduceAdd, Int.reduceSub, Int.reduceMul, ↓reduceIte]

end Go.Proofs.Ytcnemnehjpaggaa
