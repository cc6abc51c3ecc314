/- G1 G2 G3 G4 G5 -/
import Derived.Test.YtniioedflegdkaaKB
import Derived.Test.YtniioedflegdkaaLA
import Derived.Test.YtniioedflegdkaaLA
import Derived.Test.YtniioedflegdkaaLA
import Derived.Test.YtniioedflegdkaaLA
import Derived.Test.YtniioedflegdkaaLA
set_option linter.all false
/- The functions of package log, first part: numbers, sectors. -/
namespace Go.Proofs.Ytniioedflegdkaa
open Go Go.Ab Go.Proofs Go.Fs
def recE (r : Rec) : List S := [.int .i64 r.num, .str r.text]
theorem recE_eq {r : Rec} : recE r = [.int .i64 r.num, .str r.text] := nr rfl
theorem recE_inj {a b : List Rec} : (encs recE a = encs recE b) = (a = b) := encs_inj fun x y e => by
  simp only [recE, List.cons.injEq, S.int.injEq, S.str.injEq, true_and, and_true] at e
  cases x; cases y; simp_all
theorem eta_rec (r : Rec) : Rec.mk r.num r.text = r := nr rfl
attribute [go_sem] recE_eq eta_rec
def fourG : List V → Option V
  | [.c (.s (.int .i64 n))] => if 0 ≤ n ∧ n < 4294967296 then some (.c (.s (.str (four n.toNat)))) else none
  | _ => none
theorem fourG_call {n : Int} {gt : Bool} {K : V → Prop} : callE fourG [.c (.s (.int .i64 n))] gt K = ((gt = true → 0 ≤ n ∧ n < 4294967296) ∧ bindV (ifV gt (.c (.s (.str (four n.toNat))))) K) := callE_of rfl
theorem fourG_callo {n : Int} {m : Nat → Option Ab.Obj} {locs : List Nat} {K : V → (Nat → Option Ab.Obj) → Prop} : callO fourG (some [.c (.s (.int .i64 n))]) m locs K = ((0 ≤ n ∧ n < 4294967296) ∧ K (.c (.s (.str (four n.toNat)))) (sealW m locs (.c (.s (.str (four n.toNat)))))) := callO_of rfl
attribute [go_sem] fourG_call fourG_callo

def sc_log_four : SC := .seq (.reg [⟨some 2, .mv, [.k (.c (.s (.str [])))], none⟩]) (.seq (.reg [⟨some 3, .mv, [.t 0], none⟩,
⟨some 4, .conv .u8, [.t 3], none⟩,
⟨some 5, .mv, [.t 0], none⟩,
⟨some 6, .bin .shr, [.t 5, .k (.c (.s (.int .u64 8)))], none⟩,
⟨some 7, .conv .u8, [.t 6], none⟩,
⟨some 8, .mv, [.t 0], none⟩,
⟨some 9, .bin .shr, [.t 8, .k (.c (.s (.int .u64 16)))], none⟩,
⟨some 10, .conv .u8, [.t 9], none⟩,
⟨some 11, .mv, [.t 0], none⟩,
⟨some 12, .bin .shr, [.t 11, .k (.c (.s (.int .u64 24)))], none⟩,
⟨some 13, .conv .u8, [.t 12], none⟩,
⟨some 14, .bslice 1 4 [.int .u8 0] [0, 1, 2, 3], [.t 4, .t 7, .t 10, .t 13], none⟩,
⟨some 15, .toStr, [.t 14], none⟩,
⟨some 2, .mv, [.t 15], none⟩]) (.ret))
noncomputable def G_log_four : FuncId → Ab.Spec := noS
theorem G_log_four_ok : ∀ f, Contract Try.prog f (G_log_four f) := (noS_ok _)
set_option maxHeartbeats 16000000 in
set_option maxRecDepth 1000000 in
set_option linter.unusedSimpArgs false in
set_option linter.unusedVariables false in
theorem contract_log_four : Contract Try.prog 73 (plain fourG) := by
  have hb : ∃ c, Try.f73.body = some c ∧ codeOk 16 c = true ∧ cCode Try.prog c = sc_log_four := ⟨_, rfl, by kernel_rfl, by kernel_rfl⟩
  obtain ⟨c, hb1, hb2, hb3⟩ := hb
  refine contract_of (n := 1) G_log_four_ok hB hD Try.func73 hb1 (by kernel_rfl) hb2 hb3 (rs := [.tmp 2]) (by kernel_rfl) (by decide) ?_ ?_
  · intro args x h
    unfold plain fourG at h
    split at h <;> simp_all
  · intro args r hr
    unfold plain fourG at hr
    split at hr
    case h_2 => cases hr
    rename_i n
    split at hr
    case isFalse => cases hr
    rename_i hc
    simp only [Option.map_some, Option.some.injEq] at hr
    subst hr
    unfold sc_log_four
    obtain ⟨k, rfl⟩ : ∃ k : Nat, n = k := ⟨n.toNat, by omega⟩
    have h0 : 0 ≤ (k : Int) % 256 ∧ (k : Int) % 256 < 256 := by omega
    have h1 : 0 ≤ (k : Int) / 2 ^ 8 % 256 ∧ (k : Int) / 2 ^ 8 % 256 < 256 := by omega
    have h2 : 0 ≤ (k : Int) / 2 ^ 16 % 256 ∧ (k : Int) / 2 ^ 16 % 256 < 256 := by omega
    have h3 : 0 ≤ (k : Int) / 2 ^ 24 % 256 ∧ (k : Int) / 2 ^ 24 % 256 < 256 := by omega
    simp +contextual (maxSteps := 4000000) only [h0.1, h0.2, h1.1, h1.2, h2.1, h2.2, h3.1, h3.2, four_eq, go_sem, Nat.reduceAdd, Nat.reduceSub, Nat.reduceMul, Nat.reduceEqDiff, Nat.reduceLeDiff, Nat.reduceLT, Nat.reduceBEq, Int.reduceLE, Int.reduceLT, Int.reduceToNat, Int.reduceNeg, Int.reduceAdd, Int.reduceSub, Int.reduceMul, ↓reduceIte]
    omega

def numberG : List V → Option V
  | [.c (.s (.str s))] => if 4 ≤ s.length then some (.c (.s (.int .i64 (num4 s : Nat)))) else none
  | _ => none
theorem numberG_call {s : Bs} {gt : Bool} {K : V → Prop} : callE numberG [.c (.s (.str s))] gt K = ((gt = true → 4 ≤ s.length) ∧ bindV (ifV gt (.c (.s (.int .i64 (num4 s : Nat))))) K) := callE_of rfl
theorem numberG_callo {s : Bs} {m : Nat → Option Ab.Obj} {locs : List Nat} {K : V → (Nat → Option Ab.Obj) → Prop} : callO numberG (some [.c (.s (.str s))]) m locs K = ((4 ≤ s.length) ∧ K (.c (.s (.int .i64 (num4 s : Nat)))) (sealW m locs (.c (.s (.int .i64 (num4 s : Nat)))))) := callO_of rfl
attribute [go_sem] numberG_call numberG_callo

def sc_log_number : SC := .seq (.reg [⟨some 2, .mv, [.k (.c (.s (.int .i64 0)))], none⟩]) (.seq (.regD [⟨some 3, .mv, [.t 0], none⟩,
⟨some 4, .idx, [.t 3, .k (.c (.s (.int .i64 0)))], none⟩,
⟨some 5, .conv .i64, [.t 4], none⟩,
⟨some 6, .mv, [.t 0], none⟩,
⟨some 7, .idx, [.t 6, .k (.c (.s (.int .i64 1)))], none⟩,
⟨some 8, .conv .i64, [.t 7], none⟩,
⟨some 9, .bin .shl, [.t 8, .k (.c (.s (.int .u64 8)))], none⟩,
⟨some 10, .bin .or, [.t 5, .t 9], none⟩,
⟨some 11, .mv, [.t 0], none⟩,
⟨some 12, .idx, [.t 11, .k (.c (.s (.int .i64 2)))], none⟩,
⟨some 13, .conv .i64, [.t 12], none⟩,
⟨some 14, .bin .shl, [.t 13, .k (.c (.s (.int .u64 16)))], none⟩,
⟨some 15, .bin .or, [.t 10, .t 14], none⟩,
⟨some 16, .mv, [.t 0], none⟩,
⟨some 17, .idx, [.t 16, .k (.c (.s (.int .i64 3)))], none⟩,
⟨some 18, .conv .i64, [.t 17], none⟩,
⟨some 19, .bin .shl, [.t 18, .k (.c (.s (.int .u64 24)))], none⟩,
⟨some 20, .bin .or, [.t 15, .t 19], none⟩,
⟨some 2, .mv, [.t 20], none⟩] []) (.ret))
noncomputable def G_log_number : FuncId → Ab.Spec := noS
theorem G_log_number_ok : ∀ f, Contract Try.prog f (G_log_number f) := (noS_ok _)
set_option maxHeartbeats 16000000 in
set_option maxRecDepth 1000000 in
set_option linter.unusedSimpArgs false in
set_option linter.unusedVariables false in
theorem contract_log_number : Contract Try.prog 41 (plain numberG) := by
  have hb : ∃ c, Try.f41.body = some c ∧ codeOk 21 c = true ∧ cCode Try.prog c = sc_log_number := ⟨_, rfl, by kernel_rfl, by kernel_rfl⟩
  obtain ⟨c, hb1, hb2, hb3⟩ := hb
  refine contract_of (n := 1) G_log_number_ok hB hD Try.func41 hb1 (by kernel_rfl) hb2 hb3 (rs := [.tmp 2]) (by kernel_rfl) (by decide) ?_ ?_
  · intro args x h
    unfold plain numberG at h
    split at h <;> simp_all
  · intro args r hr
    unfold plain numberG at hr
    split at hr
    case h_2 => cases hr
    rename_i s
    split at hr
    case isFalse => cases hr
    rename_i hc
    simp only [Option.map_some, Option.some.injEq] at hr
    subst hr
    unfold sc_log_number
    have b0 := (s.getD 0 0).toNat_lt
    have b1 := (s.getD 1 0).toNat_lt
    have b2 := (s.getD 2 0).toNat_lt
    have b3 := (s.getD 3 0).toNat_lt
    obtain ⟨o1, o2, o3⟩ := num_or _ _ _ _ b0 b1 b2 b3
    simp +contextual (maxSteps := 4000000) only [go_sem, Nat.reduceAdd, Nat.reduceSub, Nat.reduceMul, Nat.reduceEqDiff, Nat.reduceLeDiff, Nat.reduceLT, Nat.reduceBEq, Int.reduceLE, Int.reduceLT, Int.reduceToNat, Int.reduceNeg, Int.reduceAdd, Int.reduceSub, Int.reduceMul, ↓reduceIte]
    refine ⟨by omega, by omega, by omega, by omega, by omega, by omega, by omega, by omega, by omega, by omega, ?_⟩
    unfold num4; omega

def sectorG : List V → Option V
  | [.c (.s (.str s))] => if s.length ≤ 32 then some (.c (.s (.str (fill s)))) else none
  | _ => none
theorem sectorG_call {s : Bs} {gt : Bool} {K : V → Prop} : callE sectorG [.c (.s (.str s))] gt K = ((gt = true → s.length ≤ 32) ∧ bindV (ifV gt (.c (.s (.str (fill s))))) K) := callE_of rfl
theorem sectorG_callo {s : Bs} {m : Nat → Option Ab.Obj} {locs : List Nat} {K : V → (Nat → Option Ab.Obj) → Prop} : callO sectorG (some [.c (.s (.str s))]) m locs K = ((s.length ≤ 32) ∧ K (.c (.s (.str (fill s)))) (sealW m locs (.c (.s (.str (fill s)))))) := callO_of rfl
attribute [go_sem] sectorG_call sectorG_callo

def sc_log_sector : SC := .seq (.reg [⟨some 2, .mv, [.k (.c (.s (.str [])))], none⟩]) (.seq (.reg [⟨some 3, .mv, [.t 0], none⟩,
⟨some 4, .mv, [.t 0], none⟩,
⟨some 5, .len true, [.t 4], none⟩,
⟨some 6, .bin .sub, [.k (.c (.s (.int .i64 32))), .t 5], none⟩,
⟨some 7, .call 59, [.k (.c (.s (.str [0]))), .t 6], none⟩,
⟨some 8, .bin .add, [.t 3, .t 7], none⟩,
⟨some 2, .mv, [.t 8], none⟩]) (.ret))
noncomputable def G_log_sector : FuncId → Ab.Spec := addS (noS) 59 (plain repG)
theorem G_log_sector_ok : ∀ f, Contract Try.prog f (G_log_sector f) := (addS_ok (noS_ok _) contract_strings_Repeat)
theorem G56_59 : G_log_sector 59 = plain repG := by simp [G_log_sector, addS]
set_option maxHeartbeats 16000000 in
set_option maxRecDepth 1000000 in
set_option linter.unusedSimpArgs false in
set_option linter.unusedVariables false in
theorem contract_log_sector : Contract Try.prog 56 (plain sectorG) := by
  have hb : ∃ c, Try.f56.body = some c ∧ codeOk 9 c = true ∧ cCode Try.prog c = sc_log_sector := ⟨_, rfl, by kernel_rfl, by kernel_rfl⟩
  obtain ⟨c, hb1, hb2, hb3⟩ := hb
  refine contract_of (n := 1) G_log_sector_ok hB hD Try.func56 hb1 (by kernel_rfl) hb2 hb3 (rs := [.tmp 2]) (by kernel_rfl) (by decide) ?_ ?_
  · intro args x h
    unfold plain sectorG at h
    split at h <;> simp_all
  · intro args r hr
    unfold plain sectorG at hr
    split at hr
    case h_2 => cases hr
    rename_i s
    split at hr
    case isFalse => cases hr
    rename_i hc
    simp only [Option.map_some, Option.some.injEq] at hr
    subst hr
    unfold sc_log_sector
    simp +contextual (maxSteps := 4000000) only [↓exT_call G56_59, ↓exT_callo G56_59, ↓exT_calloG G56_59, rep_one, go_sem, Nat.reduceAdd, Nat.reduceSub, Nat.reduceMul, Nat.reduceEqDiff, Nat.reduceLeDiff, Nat.reduceLT, Nat.reduceBEq, Int.reduceLE, Int.reduceLT, Int.reduceToNat, Int.reduceNeg, Int.reduceAdd, Int.reduceSub, Int.reduceMul, ↓reduceIte]
    have e : ((32 : Int) - (s.length : Int)).toNat = 32 - s.length := by omega
    rw [e]
    refine ⟨by omega, ?_⟩
    simp [fill]; omega

def lreadG_enc : (List Bs) × (List Wr) × (Bool) × (Bool) × (Int) → List V := fun ⟨ss, cs, f, g, a⟩ => [.agg [.s (.list 1 (encs strE ss) f), .s (.list 2 (encs wrE cs) g)], .c (.s (.int .i64 a))]
theorem lreadG_inj : ∀ x y, lreadG_enc x = lreadG_enc y → x = y := by
  rintro ⟨ss, cs, f, g, a⟩ ⟨ss2, cs2, f2, g2, a2⟩ h
  simp only [lreadG_enc, List.cons.injEq, V.c.injEq, V.agg.injEq, C.s.injEq, S.list.injEq, S.str.injEq, S.int.injEq, S.bool.injEq, S.fn.injEq, S.cref.injEq, strE_inj, true_and, and_true, wrE_inj] at h
  simp_all
noncomputable def lreadG : List V → Option (V) := specE lreadG_enc (fun ⟨ss, cs, f, g, a⟩ => ss.length < 4000000 ∧ cs.length < 4000000) (fun ⟨ss, cs, f, g, a⟩ => .c (.s (.str (readD ⟨ss, cs⟩ a).1)))
theorem lreadG_eq {ss : List Bs} {cs : List Wr} {f : Bool} {g : Bool} {a : Int} [Decidable (ss.length < 4000000 ∧ cs.length < 4000000)] : lreadG [.agg [.s (.list 1 (encs strE ss) f), .s (.list 2 (encs wrE cs) g)], .c (.s (.int .i64 a))] = if ss.length < 4000000 ∧ cs.length < 4000000 then some (.c (.s (.str (readD ⟨ss, cs⟩ a).1))) else none := specE_eq lreadG_inj (ss, cs, f, g, a)
theorem lreadG_call {ss : List Bs} {cs : List Wr} {f : Bool} {g : Bool} {a : Int} {gt : Bool} {K : V → Prop} : callE lreadG [.agg [.s (.list 1 (encs strE ss) f), .s (.list 2 (encs wrE cs) g)], .c (.s (.int .i64 a))] gt K = ((gt = true → ss.length < 4000000 ∧ cs.length < 4000000) ∧ bindV (ifV gt (.c (.s (.str (readD ⟨ss, cs⟩ a).1)))) K) := by
  have := Classical.propDecidable (ss.length < 4000000 ∧ cs.length < 4000000)
  exact callE_of lreadG_eq
theorem lreadG_callo {ss : List Bs} {cs : List Wr} {f : Bool} {g : Bool} {a : Int} {m : Nat → Option Ab.Obj} {locs : List Nat} {K : V → (Nat → Option Ab.Obj) → Prop} : callO lreadG (some [.agg [.s (.list 1 (encs strE ss) f), .s (.list 2 (encs wrE cs) g)], .c (.s (.int .i64 a))]) m locs K = ((ss.length < 4000000 ∧ cs.length < 4000000) ∧ K (.c (.s (.str (readD ⟨ss, cs⟩ a).1))) (sealW m locs (.c (.s (.str (readD ⟨ss, cs⟩ a).1))))) := by
  have := Classical.propDecidable (ss.length < 4000000 ∧ cs.length < 4000000)
  exact callO_of lreadG_eq
attribute [go_sem] lreadG_call lreadG_callo

def sc_log_read : SC := .seq (.reg [⟨some 2, .box 2, [.t 0], none⟩,
⟨some 4, .mv, [.k (.c (.s (.str [])))], none⟩]) (.seq (.reg [⟨some 8, .load 2 true, [.t 2], none⟩,
⟨some 9, .mv, [.t 1], none⟩,
⟨some 10, .call 72, [.t 8, .t 9], none⟩,
⟨some 7, .mv, [.t 10], none⟩,
⟨some 11, .ext 0, [.t 7], none⟩,
⟨some 12, .ext 1, [.t 7], none⟩,
⟨some 5, .mv, [.t 11], none⟩,
⟨some 6, .mv, [.t 12], none⟩]) (.seq (.reg [⟨some 13, .mv, [.t 5], none⟩,
⟨some 4, .mv, [.t 13], none⟩]) (.ret)))
noncomputable def G_log_read : FuncId → Ab.Spec := addS (noS) 72 (plain readG)
theorem G_log_read_ok : ∀ f, Contract Try.prog f (G_log_read f) := (addS_ok (noS_ok _) contract_disk_Read)
theorem G40_72 : G_log_read 72 = plain readG := by simp [G_log_read, addS]
set_option maxHeartbeats 16000000 in
set_option maxRecDepth 1000000 in
set_option linter.unusedSimpArgs false in
set_option linter.unusedVariables false in
theorem contract_log_read : Contract Try.prog 40 (plain lreadG) := by
  have hb : ∃ c, Try.f40.body = some c ∧ codeOk 14 c = true ∧ cCode Try.prog c = sc_log_read := ⟨_, rfl, by kernel_rfl, by kernel_rfl⟩
  obtain ⟨c, hb1, hb2, hb3⟩ := hb
  refine contract_of (n := 2) G_log_read_ok hB hD Try.func40 hb1 (by kernel_rfl) hb2 hb3 (rs := [.tmp 4]) (by kernel_rfl) (by decide) ?_ ?_
  · intro args x h
    obtain ⟨y, hy, -⟩ := Option.map_eq_some_iff.1 h
    obtain ⟨⟨ss, cs, f, g, a⟩, rfl, -⟩ := specE_some hy
    rfl
  · intro args r hr
    obtain ⟨y, hy, rfl⟩ := Option.map_eq_some_iff.1 hr
    obtain ⟨⟨ss, cs, f, g, a⟩, rfl, hc, rfl⟩ := specE_some hy
    clear hr hy
    have hc : ss.length < 4000000 ∧ cs.length < 4000000 := hc
    change awp _ _ (postQ _ (.v (.c (.s (.str (readD ⟨ss, cs⟩ a).1))))) _
    unfold lreadG_enc sc_log_read
    simp +contextual (maxSteps := 4000000) only [↓exT_call G40_72, ↓exT_callo G40_72, ↓exT_calloG G40_72, go_sem, Nat.reduceAdd, Nat.reduceSub, Nat.reduceMul, Nat.reduceEqDiff, Nat.reduceLeDiff, Nat.reduceLT, Nat.reduceBEq, Int.reduceLE, Int.reduceLT, Int.reduceToNat, Int.reduceNeg, Int.reduceAdd, Int.reduceSub, Int.reduceMul, ↓reduceIte]
    exact hc

def areaG_enc : (List Bs) × (List Wr) × (Bool) × (Bool) × (Int) → List V := fun ⟨ss, cs, f, g, a⟩ => [.agg [.s (.list 1 (encs strE ss) f), .s (.list 2 (encs wrE cs) g)], .c (.s (.int .i64 a))]
theorem areaG_inj : ∀ x y, areaG_enc x = areaG_enc y → x = y := by
  rintro ⟨ss, cs, f, g, a⟩ ⟨ss2, cs2, f2, g2, a2⟩ h
  simp only [areaG_enc, List.cons.injEq, V.c.injEq, V.agg.injEq, C.s.injEq, S.list.injEq, S.str.injEq, S.int.injEq, S.bool.injEq, S.fn.injEq, S.cref.injEq, strE_inj, true_and, and_true, wrE_inj] at h
  simp_all
noncomputable def areaG : List V → Option (V) := specE areaG_enc (fun ⟨ss, cs, f, g, a⟩ => (1 ≤ ss.length ∧ ss.length ≤ 300) ∧ 0 ≤ a ∧ a < 4294967296) (fun ⟨ss, cs, f, g, a⟩ => .tup [.inl (.s (.int .i64 (fromN ss.length a.toNat : Nat))), .inl (.s (.int .i64 (fromN ss.length a.toNat + halfN ss.length : Nat)))])
theorem areaG_eq {ss : List Bs} {cs : List Wr} {f : Bool} {g : Bool} {a : Int} [Decidable ((1 ≤ ss.length ∧ ss.length ≤ 300) ∧ 0 ≤ a ∧ a < 4294967296)] : areaG [.agg [.s (.list 1 (encs strE ss) f), .s (.list 2 (encs wrE cs) g)], .c (.s (.int .i64 a))] = if (1 ≤ ss.length ∧ ss.length ≤ 300) ∧ 0 ≤ a ∧ a < 4294967296 then some (.tup [.inl (.s (.int .i64 (fromN ss.length a.toNat : Nat))), .inl (.s (.int .i64 (fromN ss.length a.toNat + halfN ss.length : Nat)))]) else none := specE_eq areaG_inj (ss, cs, f, g, a)
theorem areaG_call {ss : List Bs} {cs : List Wr} {f : Bool} {g : Bool} {a : Int} {gt : Bool} {K : V → Prop} : callE areaG [.agg [.s (.list 1 (encs strE ss) f), .s (.list 2 (encs wrE cs) g)], .c (.s (.int .i64 a))] gt K = ((gt = true → (1 ≤ ss.length ∧ ss.length ≤ 300) ∧ 0 ≤ a ∧ a < 4294967296) ∧ bindV (ifV gt (.tup [.inl (.s (.int .i64 (fromN ss.length a.toNat : Nat))), .inl (.s (.int .i64 (fromN ss.length a.toNat + halfN ss.length : Nat)))])) K) := by
  have := Classical.propDecidable ((1 ≤ ss.length ∧ ss.length ≤ 300) ∧ 0 ≤ a ∧ a < 4294967296)
  exact callE_of areaG_eq
theorem areaG_callo {ss : List Bs} {cs : List Wr} {f : Bool} {g : Bool} {a : Int} {m : Nat → Option Ab.Obj} {locs : List Nat} {K : V → (Nat → Option Ab.Obj) → Prop} : callO areaG (some [.agg [.s (.list 1 (encs strE ss) f), .s (.list 2 (encs wrE cs) g)], .c (.s (.int .i64 a))]) m locs K = (((1 ≤ ss.length ∧ ss.length ≤ 300) ∧ 0 ≤ a ∧ a < 4294967296) ∧ K (.tup [.inl (.s (.int .i64 (fromN ss.length a.toNat : Nat))), .inl (.s (.int .i64 (fromN ss.length a.toNat + halfN ss.length : Nat)))]) (sealW m locs (.tup [.inl (.s (.int .i64 (fromN ss.length a.toNat : Nat))), .inl (.s (.int .i64 (fromN ss.length a.toNat + halfN ss.length : Nat)))]))) := by
  have := Classical.propDecidable ((1 ≤ ss.length ∧ ss.length ≤ 300) ∧ 0 ≤ a ∧ a < 4294967296)
  exact callO_of areaG_eq
attribute [go_sem] areaG_call areaG_callo

def sc_log_area : SC := .seq (.reg [⟨some 2, .box 2, [.t 0], none⟩,
⟨some 4, .mv, [.k (.c (.s (.int .i64 0)))], none⟩,
⟨some 5, .mv, [.k (.c (.s (.int .i64 0)))], none⟩]) (.seq (.reg [⟨some 8, .fadr 0, [.t 2], none⟩,
⟨some 9, .load 1 false, [.t 8], none⟩,
⟨some 10, .len false, [.t 9], none⟩,
⟨some 11, .bin .sub, [.t 10, .k (.c (.s (.int .i64 1)))], none⟩,
⟨some 12, .bin .quo, [.t 11, .k (.c (.s (.int .i64 2)))], none⟩,
⟨some 6, .mv, [.t 12], none⟩]) (.seq (.reg [⟨some 13, .mv, [.t 1], none⟩,
⟨some 14, .bin .rem, [.t 13, .k (.c (.s (.int .i64 2)))], none⟩,
⟨some 15, .mv, [.t 6], none⟩,
⟨some 16, .bin .mul, [.t 14, .t 15], none⟩,
⟨some 17, .bin .add, [.k (.c (.s (.int .i64 1))), .t 16], none⟩,
⟨some 7, .mv, [.t 17], none⟩]) (.seq (.reg [⟨some 18, .mv, [.t 7], none⟩,
⟨some 19, .mv, [.t 7], none⟩,
⟨some 20, .mv, [.t 6], none⟩,
⟨some 21, .bin .add, [.t 19, .t 20], none⟩,
⟨some 4, .mv, [.t 18], none⟩,
⟨some 5, .mv, [.t 21], none⟩]) (.ret))))
noncomputable def G_log_area : FuncId → Ab.Spec := noS
theorem G_log_area_ok : ∀ f, Contract Try.prog f (G_log_area f) := (noS_ok _)
set_option maxHeartbeats 16000000 in
set_option maxRecDepth 1000000 in
set_option linter.unusedSimpArgs false in
set_option linter.unusedVariables false in
theorem contract_log_area : Contract Try.prog 43 (plain areaG) := by
  have hb : ∃ c, Try.f43.body = some c ∧ codeOk 22 c = true ∧ cCode Try.prog c = sc_log_area := ⟨_, rfl, by kernel_rfl, by kernel_rfl⟩
  obtain ⟨c, hb1, hb2, hb3⟩ := hb
  refine contract_of (n := 2) G_log_area_ok hB hD Try.func43 hb1 (by kernel_rfl) hb2 hb3 (rs := [.tmp 4, .tmp 5]) (by kernel_rfl) (by decide) ?_ ?_
  · intro args x h
    obtain ⟨y, hy, -⟩ := Option.map_eq_some_iff.1 h
    obtain ⟨⟨ss, cs, f, g, a⟩, rfl, -⟩ := specE_some hy
    rfl
  · intro args r hr
    obtain ⟨y, hy, rfl⟩ := Option.map_eq_some_iff.1 hr
    obtain ⟨⟨ss, cs, f, g, a⟩, rfl, hc, rfl⟩ := specE_some hy
    clear hr hy
    have hc : (1 ≤ ss.length ∧ ss.length ≤ 300) ∧ 0 ≤ a ∧ a < 4294967296 := hc
    change awp _ _ (postQ _ (.v (.tup [.inl (.s (.int .i64 (fromN ss.length a.toNat : Nat))), .inl (.s (.int .i64 (fromN ss.length a.toNat + halfN ss.length : Nat)))]))) _
    unfold areaG_enc sc_log_area
    obtain ⟨k, rfl⟩ : ∃ k : Nat, a = k := ⟨a.toNat, by omega⟩
    have eh : ((ss.length : Int) - 1) / 2 = (halfN ss.length : Nat) := by unfold halfN; omega
    have hh : halfN ss.length ≤ 150 := by unfold halfN; omega
    have ef : 1 + (k : Int) % 2 * (halfN ss.length : Nat) = (fromN ss.length k : Nat) := by unfold fromN; rw [Int.natCast_add, Int.natCast_mul]; rfl
    have em : 0 ≤ (k : Int) % 2 * (halfN ss.length : Nat) ∧ (k : Int) % 2 * (halfN ss.length : Nat) ≤ 150 := by
      rcases (by omega : (k : Int) % 2 = 0 ∨ (k : Int) % 2 = 1) with h | h <;> rw [h] <;> omega
    simp +contextual (maxSteps := 4000000) only [eh, ef, go_sem, Nat.reduceAdd, Nat.reduceSub, Nat.reduceMul, Nat.reduceEqDiff, Nat.reduceLeDiff, Nat.reduceLT, Nat.reduceBEq, Int.reduceLE, Int.reduceLT, Int.reduceToNat, Int.reduceNeg, Int.reduceAdd, Int.reduceSub, Int.reduceMul, ↓reduceIte]
    omega

def markG : List V → Option V
  | [.c (.s (.int .i64 n))] => if 0 ≤ n ∧ n < 4294967296 then some (.c (.s (.str (markS n.toNat)))) else none
  | _ => none
theorem markG_call {n : Int} {gt : Bool} {K : V → Prop} : callE markG [.c (.s (.int .i64 n))] gt K = ((gt = true → 0 ≤ n ∧ n < 4294967296) ∧ bindV (ifV gt (.c (.s (.str (markS n.toNat))))) K) := callE_of rfl
theorem markG_callo {n : Int} {m : Nat → Option Ab.Obj} {locs : List Nat} {K : V → (Nat → Option Ab.Obj) → Prop} : callO markG (some [.c (.s (.int .i64 n))]) m locs K = ((0 ≤ n ∧ n < 4294967296) ∧ K (.c (.s (.str (markS n.toNat)))) (sealW m locs (.c (.s (.str (markS n.toNat)))))) := callO_of rfl
attribute [go_sem] markG_call markG_callo

def sc_log_mark : SC := .seq (.reg [⟨some 2, .mv, [.k (.c (.s (.str [])))], none⟩]) (.seq (.seq (.reg [⟨some 3, .mv, [.t 0], none⟩,
⟨some 4, .bin .eql, [.t 3, .k (.c (.s (.int .i64 0)))], none⟩]) (.cond (.t 4) (.seq (.reg [⟨some 5, .call 56, [.k (.c (.s (.str [])))], none⟩,
⟨some 2, .mv, [.t 5], none⟩]) (.ret)) (.skip))) (.seq (.regD [⟨some 6, .bslice 1 1 [.int .u8 0] [0], [.k (.c (.s (.int .u8 83)))], none⟩,
⟨some 7, .toStr, [.t 6], none⟩,
⟨some 8, .mv, [.t 0], none⟩,
⟨some 9, .call 73, [.t 8], none⟩,
⟨some 10, .bin .add, [.t 7, .t 9], none⟩,
⟨some 11, .call 56, [.t 10], none⟩,
⟨some 2, .mv, [.t 11], none⟩] [(0, 3), (1, 3)]) (.ret)))
noncomputable def G_log_mark : FuncId → Ab.Spec := addS (addS (noS) 56 (plain sectorG)) 73 (plain fourG)
theorem G_log_mark_ok : ∀ f, Contract Try.prog f (G_log_mark f) := (addS_ok (addS_ok (noS_ok _) contract_log_sector) contract_log_four)
theorem G42_56 : G_log_mark 56 = plain sectorG := by simp [G_log_mark, addS]
theorem G42_73 : G_log_mark 73 = plain fourG := by simp [G_log_mark, addS]
set_option maxHeartbeats 16000000 in
set_option maxRecDepth 1000000 in
set_option linter.unusedSimpArgs false in
set_option linter.unusedVariables false in
theorem contract_log_mark : Contract Try.prog 42 (plain markG) := by
  have hb : ∃ c, Try.f42.body = some c ∧ codeOk 12 c = true ∧ cCode Try.prog c = sc_log_mark := ⟨_, rfl, by kernel_rfl, by kernel_rfl⟩
  obtain ⟨c, hb1, hb2, hb3⟩ := hb
  refine contract_of (n := 1) G_log_mark_ok hB hD Try.func42 hb1 (by kernel_rfl) hb2 hb3 (rs := [.tmp 2]) (by kernel_rfl) (by decide) ?_ ?_
  · intro args x h
    unfold plain markG at h
    split at h <;> simp_all
  · intro args r hr
    unfold plain markG at hr
    split at hr
    case h_2 => cases hr
    rename_i n
    split at hr
    case isFalse => cases hr
    rename_i hc
    simp only [Option.map_some, Option.some.injEq] at hr
    subst hr
    unfold sc_log_mark
    obtain ⟨k, rfl⟩ : ∃ k : Nat, n = k := ⟨n.toNat, by omega⟩
    simp +contextual (maxSteps := 4000000) only [↓exT_call G42_56, ↓exT_callo G42_56, ↓exT_calloG G42_56, ↓exT_call G42_73, ↓exT_callo G42_73, ↓exT_calloG G42_73, go_sem, Nat.reduceAdd, Nat.reduceSub, Nat.reduceMul, Nat.reduceEqDiff, Nat.reduceLeDiff, Nat.reduceLT, Nat.reduceBEq, Int.reduceLE, Int.reduceLT, Int.reduceToNat, Int.reduceNeg, Int.reduceAdd, Int.reduceSub, Int.reduceMul, ↓reduceIte]
    refine ⟨fun h => ?_, fun h => ⟨hc.2, by rw [four_len]; omega, by rw [four_len]; omega, ?_⟩⟩
    · unfold markS; rw [if_pos (by omega)]
    · unfold markS; rw [if_neg (by omega)]; rfl

def sectorsG_enc : (Int) × (Int) × (Bs) → List V := fun ⟨a, n, t⟩ => [.c (.s (.int .i64 a)), .agg [.s (.int .i64 n), .s (.str t)]]
theorem sectorsG_inj : ∀ x y, sectorsG_enc x = sectorsG_enc y → x = y := by
  rintro ⟨a, n, t⟩ ⟨a2, n2, t2⟩ h
  simp only [sectorsG_enc, List.cons.injEq, V.c.injEq, V.agg.injEq, C.s.injEq, S.list.injEq, S.str.injEq, S.int.injEq, S.bool.injEq, S.fn.injEq, S.cref.injEq, strE_inj, true_and, and_true] at h
  simp_all
noncomputable def sectorsG : List V → Option (V) := specE sectorsG_enc (fun ⟨a, n, t⟩ => (0 ≤ a ∧ a < 4294967296) ∧ (0 ≤ n ∧ n < 4294967296) ∧ t.length < 4000000) (fun ⟨a, n, t⟩ => .tup [.inl (.s (.str (headS a.toNat ⟨n, t⟩))), .inl (.s (.list 1 (encs strE (bodyS ⟨n, t⟩)) false))])
theorem sectorsG_eq {a : Int} {n : Int} {t : Bs} [Decidable ((0 ≤ a ∧ a < 4294967296) ∧ (0 ≤ n ∧ n < 4294967296) ∧ t.length < 4000000)] : sectorsG [.c (.s (.int .i64 a)), .agg [.s (.int .i64 n), .s (.str t)]] = if (0 ≤ a ∧ a < 4294967296) ∧ (0 ≤ n ∧ n < 4294967296) ∧ t.length < 4000000 then some (.tup [.inl (.s (.str (headS a.toNat ⟨n, t⟩))), .inl (.s (.list 1 (encs strE (bodyS ⟨n, t⟩)) false))]) else none := specE_eq sectorsG_inj (a, n, t)
theorem sectorsG_call {a : Int} {n : Int} {t : Bs} {gt : Bool} {K : V → Prop} : callE sectorsG [.c (.s (.int .i64 a)), .agg [.s (.int .i64 n), .s (.str t)]] gt K = ((gt = true → (0 ≤ a ∧ a < 4294967296) ∧ (0 ≤ n ∧ n < 4294967296) ∧ t.length < 4000000) ∧ bindV (ifV gt (.tup [.inl (.s (.str (headS a.toNat ⟨n, t⟩))), .inl (.s (.list 1 (encs strE (bodyS ⟨n, t⟩)) false))])) K) := by
  have := Classical.propDecidable ((0 ≤ a ∧ a < 4294967296) ∧ (0 ≤ n ∧ n < 4294967296) ∧ t.length < 4000000)
  exact callE_of sectorsG_eq
theorem sectorsG_callo {a : Int} {n : Int} {t : Bs} {m : Nat → Option Ab.Obj} {locs : List Nat} {K : V → (Nat → Option Ab.Obj) → Prop} : callO sectorsG (some [.c (.s (.int .i64 a)), .agg [.s (.int .i64 n), .s (.str t)]]) m locs K = (((0 ≤ a ∧ a < 4294967296) ∧ (0 ≤ n ∧ n < 4294967296) ∧ t.length < 4000000) ∧ K (.tup [.inl (.s (.str (headS a.toNat ⟨n, t⟩))), .inl (.s (.list 1 (encs strE (bodyS ⟨n, t⟩)) false))]) (sealW m locs (.tup [.inl (.s (.str (headS a.toNat ⟨n, t⟩))), .inl (.s (.list 1 (encs strE (bodyS ⟨n, t⟩)) false))]))) := by
  have := Classical.propDecidable ((0 ≤ a ∧ a < 4294967296) ∧ (0 ≤ n ∧ n < 4294967296) ∧ t.length < 4000000)
  exact callO_of sectorsG_eq
attribute [go_sem] sectorsG_call sectorsG_callo

theorem fill_snoc {l : List Bs} {x : Bs} : encs strE (l.map fun t => fill (66 :: t)) ++ [[.str (fill (66 :: x))]] = encs strE ((l ++ [x]).map fun t => fill (66 :: t)) := by
  rw [List.map_append, encs_append]; rfl
theorem of72 : UInt8.ofNat 72 = 72 := nr rfl
theorem of66 : UInt8.ofNat 66 = 66 := nr rfl
theorem of83 : UInt8.ofNat 83 = 83 := nr rfl
def sc_log_sectors : SC := .seq (.reg [⟨some 3, .box 2, [.t 1], none⟩,
⟨some 4, .mv, [.k (.c (.s (.str [])))], none⟩,
⟨some 5, .mv, [.k (.c (.s (.list 0 [] true)))], none⟩]) (.seq (.regD [⟨some 10, .bslice 1 1 [.int .u8 0] [0], [.k (.c (.s (.int .u8 72)))], none⟩,
⟨some 11, .toStr, [.t 10], none⟩,
⟨some 12, .mv, [.t 0], none⟩,
⟨some 13, .call 73, [.t 12], none⟩,
⟨some 14, .bin .add, [.t 11, .t 13], none⟩,
⟨some 15, .fadr 0, [.t 3], none⟩,
⟨some 16, .load 1 false, [.t 15], none⟩,
⟨some 17, .call 73, [.t 16], none⟩,
⟨some 18, .bin .add, [.t 14, .t 17], none⟩,
⟨some 19, .fadr 1, [.t 3], none⟩,
⟨some 20, .load 1 false, [.t 19], none⟩,
⟨some 21, .len true, [.t 20], none⟩,
⟨some 22, .call 73, [.t 21], none⟩,
⟨some 23, .bin .add, [.t 18, .t 22], none⟩,
⟨some 24, .call 56, [.t 23], none⟩,
⟨some 6, .mv, [.t 24], none⟩] [(0, 3), (1, 3), (0, 5), (3, 5), (0, 6), (3, 6), (0, 7), (1, 7), (0, 9), (3, 9), (7, 9), (0, 10), (3, 10), (7, 10), (0, 11), (3, 11), (7, 11), (0, 12), (1, 12)]) (.seq (.reg [⟨some 7, .mv, [.k (.c (.s (.list 0 [] true)))], none⟩]) (.seq (.seq (.reg [⟨some 25, .fadr 1, [.t 3], none⟩,
⟨some 26, .load 1 false, [.t 25], none⟩,
⟨some 8, .mv, [.t 26], none⟩]) (.block 0 (.loop (.seq (.seq (.reg [⟨some 27, .mv, [.t 8], none⟩,
⟨some 28, .bin .neq, [.t 27, .k (.c (.s (.str [])))], none⟩]) (.cond (.t 28) (.skip) (.exit 0))) (.block 1 (.seq (.reg [⟨some 29, .mv, [.t 8], none⟩,
⟨some 30, .len true, [.t 29], none⟩,
⟨some 31, .mnx false, [.k (.c (.s (.int .i64 31))), .t 30], none⟩,
⟨some 9, .mv, [.t 31], none⟩]) (.seq (.regD [⟨some 32, .mv, [.t 7], none⟩,
⟨some 33, .bslice 1 1 [.int .u8 0] [0], [.k (.c (.s (.int .u8 66)))], none⟩,
⟨some 34, .toStr, [.t 33], none⟩,
⟨some 35, .mv, [.t 8], none⟩,
⟨some 36, .mv, [.t 9], none⟩,
⟨some 37, .slcS false true, [.t 35, .t 36], none⟩,
⟨some 38, .bin .add, [.t 34, .t 37], none⟩,
⟨some 39, .call 56, [.t 38], none⟩,
⟨some 40, .bslice 1 1 [.str []] [0], [.t 39], none⟩,
⟨some 41, .append false 1 16, [.t 32, .t 40], none⟩,
⟨some 7, .mv, [.t 41], none⟩] []) (.reg [⟨some 42, .mv, [.t 8], none⟩,
⟨some 43, .mv, [.t 9], none⟩,
⟨some 44, .slcS true false, [.t 42, .t 43], none⟩,
⟨some 8, .mv, [.t 44], none⟩])))))))) (.seq (.reg [⟨some 45, .mv, [.t 6], none⟩,
⟨some 46, .mv, [.t 7], none⟩,
⟨some 4, .mv, [.t 45], none⟩,
⟨some 5, .mv, [.t 46], none⟩]) (.ret)))))
noncomputable def G_log_sectors : FuncId → Ab.Spec := addS (addS (noS) 73 (plain fourG)) 56 (plain sectorG)
theorem G_log_sectors_ok : ∀ f, Contract Try.prog f (G_log_sectors f) := (addS_ok (addS_ok (noS_ok _) contract_log_four) contract_log_sector)
theorem G51_73 : G_log_sectors 73 = plain fourG := by simp [G_log_sectors, addS]
theorem G51_56 : G_log_sectors 56 = plain sectorG := by simp [G_log_sectors, addS]
set_option maxHeartbeats 16000000 in
set_option maxRecDepth 1000000 in
set_option linter.unusedSimpArgs false in
set_option linter.unusedVariables false in
theorem contract_log_sectors : Contract Try.prog 51 (plain sectorsG) := by
  have hb : ∃ c, Try.f51.body = some c ∧ codeOk 47 c = true ∧ cCode Try.prog c = sc_log_sectors := ⟨_, rfl, by kernel_rfl, by kernel_rfl⟩
  obtain ⟨c, hb1, hb2, hb3⟩ := hb
  refine contract_of (n := 2) G_log_sectors_ok hB hD Try.func51 hb1 (by kernel_rfl) hb2 hb3 (rs := [.tmp 4, .tmp 5]) (by kernel_rfl) (by decide) ?_ ?_
  · intro args x h
    obtain ⟨y, hy, -⟩ := Option.map_eq_some_iff.1 h
    obtain ⟨⟨a, n, t⟩, rfl, -⟩ := specE_some hy
    rfl
  · intro args r hr
    obtain ⟨y, hy, rfl⟩ := Option.map_eq_some_iff.1 hr
    obtain ⟨⟨a, n, t⟩, rfl, hc, rfl⟩ := specE_some hy
    clear hr hy
    have hc : (0 ≤ a ∧ a < 4294967296) ∧ (0 ≤ n ∧ n < 4294967296) ∧ t.length < 4000000 := hc
    change awp _ _ (postQ _ (.v (.tup [.inl (.s (.str (headS a.toNat ⟨n, t⟩))), .inl (.s (.list 1 (encs strE (bodyS ⟨n, t⟩)) false))]))) _
    unfold sectorsG_enc sc_log_sectors
    obtain ⟨ha, hn, ht⟩ := hc
    have hb : bodyS ⟨n, t⟩ = (chunk31 t).map fun x => fill (66 :: x) := rfl
    have hh : headS a.toNat ⟨n, t⟩ = fill (72 :: (four a.toNat ++ (four n.toNat ++ four t.length))) := by unfold headS; rw [List.append_assoc]
    rw [hb, hh]
    simp +contextual (maxSteps := 4000000) only [↓exT_call G51_73, ↓exT_callo G51_73, ↓exT_calloG G51_73, ↓exT_call G51_56, ↓exT_callo G51_56, ↓exT_calloG G51_56, of72, four_len, go_sem, Nat.reduceAdd, Nat.reduceSub, Nat.reduceMul, Nat.reduceEqDiff, Nat.reduceLeDiff, Nat.reduceLT, Nat.reduceBEq, Int.reduceLE, Int.reduceLT, Int.reduceToNat, Int.reduceNeg, Int.reduceAdd, Int.reduceSub, Int.reduceMul, ↓reduceIte]
    refine ⟨ha, by omega, hn, by omega, by omega, by omega, ?_⟩
    refine awp_loopM (α := List Bs × Bs) (fun y => [(6, .c (.s (.str (fill (72 :: (four a.toNat ++ (four n.toNat ++ four t.length))))))), (7, .c (.own 7 y.1.length)), (8, .c (.s (.str y.2)))])
      (fun y => [(7, .row 1 (encs strE (y.1.map fun x => fill (66 :: x))))]) (fun y => y.2.length) ([], t) (fun y => chunk31 t = y.1 ++ chunk31 y.2 ∧ y.1.length + y.2.length ≤ t.length) ⟨rfl, by simp⟩ (Weak.trans (Weak.nilSlot 7 7 1 rfl rfl) (Weak.meets ?_)) ?_
    · simp +contextual (maxSteps := 4000000) only [↓exT_call G51_73, ↓exT_callo G51_73, ↓exT_calloG G51_73, ↓exT_call G51_56, ↓exT_callo G51_56, ↓exT_calloG G51_56, go_sem, Nat.reduceAdd, Nat.reduceSub, Nat.reduceMul, Nat.reduceEqDiff, Nat.reduceLeDiff, Nat.reduceLT, Nat.reduceBEq, Int.reduceLE, Int.reduceLT, Int.reduceToNat, Int.reduceNeg, Int.reduceAdd, Int.reduceSub, Int.reduceMul, ↓reduceIte]
      simp [encs]
    rintro ⟨dn, r⟩ ⟨h1, h2⟩
    simp only at h1 h2
    have hl : (encs strE (dn.map fun x => fill (66 :: x))).length = dn.length := by simp [encs]
    by_cases hr : r = []
    · subst hr
      rw [chunk_nil, List.append_nil] at h1
      simp +contextual (maxSteps := 4000000) only [↓exT_call G51_73, ↓exT_callo G51_73, ↓exT_calloG G51_73, ↓exT_call G51_56, ↓exT_callo G51_56, ↓exT_calloG G51_56, h1, go_sem, Nat.reduceAdd, Nat.reduceSub, Nat.reduceMul, Nat.reduceEqDiff, Nat.reduceLeDiff, Nat.reduceLT, Nat.reduceBEq, Int.reduceLE, Int.reduceLT, Int.reduceToNat, Int.reduceNeg, Int.reduceAdd, Int.reduceSub, Int.reduceMul, ↓reduceIte]
      simp [encs]
    · have hc := chunk_ne hr
      have hl0 : r.length ≠ 0 := fun h => hr (List.length_eq_zero_iff.1 h)
      have e1 : r.take (min 31 (r.length : Int)).toNat = r.take 31 := by
        have : (min 31 (r.length : Int)).toNat = min 31 r.length := by omega
        rw [this, ← List.take_take, List.take_length]
      have e2 : r.drop (min 31 (r.length : Int)).toNat = r.drop 31 := by
        by_cases h : 31 ≤ r.length
        · have : (min 31 (r.length : Int)).toNat = 31 := by omega
          rw [this]
        · rw [List.drop_eq_nil_of_le (by omega), List.drop_eq_nil_of_le (by omega)]
      have em : 0 ≤ min 31 (r.length : Int) ∧ min 31 (r.length : Int) ≤ r.length := by omega
      have lt : (r.take 31).length ≤ 31 := by simp; omega
      simp +contextual (maxSteps := 4000000) only [↓exT_call G51_73, ↓exT_callo G51_73, ↓exT_calloG G51_73, ↓exT_call G51_56, ↓exT_callo G51_56, ↓exT_calloG G51_56, hr, e1, e2, em.1, em.2, of66, fill_snoc, hl, go_sem, Nat.reduceAdd, Nat.reduceSub, Nat.reduceMul, Nat.reduceEqDiff, Nat.reduceLeDiff, Nat.reduceLT, Nat.reduceBEq, Int.reduceLE, Int.reduceLT, Int.reduceToNat, Int.reduceNeg, Int.reduceAdd, Int.reduceSub, Int.reduceMul, ↓reduceIte]

      refine ⟨by omega, by omega, by omega, (dn ++ [r.take 31], r.drop 31), ⟨by rw [h1, hc]; simp, by simp; omega⟩, by simp; omega, ?_⟩
      simp

end Go.Proofs.Ytniioedflegdkaa

/- The functions of package log, second part: a record. -/
namespace Go.Proofs.Ytniioedflegdkaa
open Go Go.Ab Go.Proofs Go.Fs
def oneD (d : Disk) (g a e : Int) : Rec × Int := oneV (oneR (getS d) g.toNat a.toNat e.toNat)
def recordG_enc : (List Bs) × (List Wr) × (Bool) × (Bool) × (Int) × (Int) × (Int) → List V := fun ⟨ss, cs, f, g, gn, a, e⟩ => [.agg [.s (.list 1 (encs strE ss) f), .s (.list 2 (encs wrE cs) g)], .c (.s (.int .i64 gn)), .c (.s (.int .i64 a)), .c (.s (.int .i64 e))]
theorem recordG_inj : ∀ x y, recordG_enc x = recordG_enc y → x = y := by
  rintro ⟨ss, cs, f, g, gn, a, e⟩ ⟨ss2, cs2, f2, g2, gn2, a2, e2⟩ h
  simp only [recordG_enc, List.cons.injEq, V.c.injEq, V.agg.injEq, C.s.injEq, S.list.injEq, S.str.injEq, S.int.injEq, S.bool.injEq, S.fn.injEq, S.cref.injEq, strE_inj, true_and, and_true, wrE_inj] at h
  simp_all
noncomputable def recordG : List V → Option (V) := specE recordG_enc (fun ⟨ss, cs, f, g, gn, a, e⟩ => rightD ⟨ss, cs⟩ = true ∧ (0 ≤ gn ∧ gn < 4294967296) ∧ 0 ≤ a ∧ a < e ∧ e ≤ ss.length) (fun ⟨ss, cs, f, g, gn, a, e⟩ => .tup [.inr [.s (.int .i64 (oneD ⟨ss, cs⟩ gn a e).1.num), .s (.str (oneD ⟨ss, cs⟩ gn a e).1.text)], .inl (.s (.int .i64 (oneD ⟨ss, cs⟩ gn a e).2))])
theorem recordG_eq {ss : List Bs} {cs : List Wr} {f : Bool} {g : Bool} {gn : Int} {a : Int} {e : Int} [Decidable (rightD ⟨ss, cs⟩ = true ∧ (0 ≤ gn ∧ gn < 4294967296) ∧ 0 ≤ a ∧ a < e ∧ e ≤ ss.length)] : recordG [.agg [.s (.list 1 (encs strE ss) f), .s (.list 2 (encs wrE cs) g)], .c (.s (.int .i64 gn)), .c (.s (.int .i64 a)), .c (.s (.int .i64 e))] = if rightD ⟨ss, cs⟩ = true ∧ (0 ≤ gn ∧ gn < 4294967296) ∧ 0 ≤ a ∧ a < e ∧ e ≤ ss.length then some (.tup [.inr [.s (.int .i64 (oneD ⟨ss, cs⟩ gn a e).1.num), .s (.str (oneD ⟨ss, cs⟩ gn a e).1.text)], .inl (.s (.int .i64 (oneD ⟨ss, cs⟩ gn a e).2))]) else none := specE_eq recordG_inj (ss, cs, f, g, gn, a, e)
theorem recordG_call {ss : List Bs} {cs : List Wr} {f : Bool} {g : Bool} {gn : Int} {a : Int} {e : Int} {gt : Bool} {K : V → Prop} : callE recordG [.agg [.s (.list 1 (encs strE ss) f), .s (.list 2 (encs wrE cs) g)], .c (.s (.int .i64 gn)), .c (.s (.int .i64 a)), .c (.s (.int .i64 e))] gt K = ((gt = true → rightD ⟨ss, cs⟩ = true ∧ (0 ≤ gn ∧ gn < 4294967296) ∧ 0 ≤ a ∧ a < e ∧ e ≤ ss.length) ∧ bindV (ifV gt (.tup [.inr [.s (.int .i64 (oneD ⟨ss, cs⟩ gn a e).1.num), .s (.str (oneD ⟨ss, cs⟩ gn a e).1.text)], .inl (.s (.int .i64 (oneD ⟨ss, cs⟩ gn a e).2))])) K) := by
  have := Classical.propDecidable (rightD ⟨ss, cs⟩ = true ∧ (0 ≤ gn ∧ gn < 4294967296) ∧ 0 ≤ a ∧ a < e ∧ e ≤ ss.length)
  exact callE_of recordG_eq
theorem recordG_callo {ss : List Bs} {cs : List Wr} {f : Bool} {g : Bool} {gn : Int} {a : Int} {e : Int} {m : Nat → Option Ab.Obj} {locs : List Nat} {K : V → (Nat → Option Ab.Obj) → Prop} : callO recordG (some [.agg [.s (.list 1 (encs strE ss) f), .s (.list 2 (encs wrE cs) g)], .c (.s (.int .i64 gn)), .c (.s (.int .i64 a)), .c (.s (.int .i64 e))]) m locs K = ((rightD ⟨ss, cs⟩ = true ∧ (0 ≤ gn ∧ gn < 4294967296) ∧ 0 ≤ a ∧ a < e ∧ e ≤ ss.length) ∧ K (.tup [.inr [.s (.int .i64 (oneD ⟨ss, cs⟩ gn a e).1.num), .s (.str (oneD ⟨ss, cs⟩ gn a e).1.text)], .inl (.s (.int .i64 (oneD ⟨ss, cs⟩ gn a e).2))]) (sealW m locs (.tup [.inr [.s (.int .i64 (oneD ⟨ss, cs⟩ gn a e).1.num), .s (.str (oneD ⟨ss, cs⟩ gn a e).1.text)], .inl (.s (.int .i64 (oneD ⟨ss, cs⟩ gn a e).2))]))) := by
  have := Classical.propDecidable (rightD ⟨ss, cs⟩ = true ∧ (0 ≤ gn ∧ gn < 4294967296) ∧ 0 ≤ a ∧ a < e ∧ e ≤ ss.length)
  exact callO_of recordG_eq
attribute [go_sem] recordG_call recordG_callo

def sc_log_record : SC := .seq (.reg [⟨some 4, .box 2, [.t 0], none⟩,
⟨some 8, .alloc [.int .i64 0, .str []], [], none⟩,
⟨some 9, .mv, [.k (.c (.s (.int .i64 0)))], none⟩]) (.seq (.reg [⟨some 20, .load 2 true, [.t 4], none⟩,
⟨some 21, .mv, [.t 2], none⟩,
⟨some 22, .call 40, [.t 20, .t 21], none⟩,
⟨some 10, .mv, [.t 22], none⟩]) (.seq (.reg [⟨some 23, .mv, [.t 10], none⟩,
⟨some 24, .slcS true false, [.t 23, .k (.c (.s (.int .i64 5)))], none⟩,
⟨some 25, .call 41, [.t 24], none⟩,
⟨some 26, .build [.int .i64 0, .str []] [(0, 1)], [.t 25], none⟩,
⟨some 11, .alloc [.int .i64 0, .str []], [], none⟩,
⟨none, .store 2 true, [.t 11, .t 26], none⟩]) (.seq (.reg [⟨some 27, .mv, [.t 10], none⟩,
⟨some 28, .slcS true false, [.t 27, .k (.c (.s (.int .i64 9)))], none⟩,
⟨some 29, .call 41, [.t 28], none⟩,
⟨some 12, .mv, [.t 29], none⟩]) (.seq (.reg [⟨some 30, .mv, [.t 12], none⟩,
⟨some 31, .bin .add, [.t 30, .k (.c (.s (.int .i64 31)))], none⟩,
⟨some 32, .bin .sub, [.t 31, .k (.c (.s (.int .i64 1)))], none⟩,
⟨some 33, .bin .quo, [.t 32, .k (.c (.s (.int .i64 31)))], none⟩,
⟨some 34, .bin .add, [.k (.c (.s (.int .i64 1))), .t 33], none⟩,
⟨some 13, .mv, [.t 34], none⟩]) (.seq (.seq (.reg [⟨some 35, .mv, [.t 12], none⟩,
⟨some 36, .bin .gtr, [.t 35, .k (.c (.s (.int .i64 1200)))], none⟩,
⟨some 37, .mv, [.t 36], none⟩,
⟨some 38, .fadr 0, [.t 11], some (37, false)⟩,
⟨some 39, .load 1 false, [.t 38], some (37, false)⟩,
⟨some 40, .bin .lss, [.t 39, .k (.c (.s (.int .i64 1)))], some (37, false)⟩,
⟨some 41, .pick, [.t 37, .k (.c (.s (.bool true))), .t 40], none⟩,
⟨some 42, .mv, [.t 41], none⟩,
⟨some 43, .fadr 0, [.t 11], some (42, false)⟩,
⟨some 44, .load 1 false, [.t 43], some (42, false)⟩,
⟨some 45, .bin .gtr, [.t 44, .k (.c (.s (.int .i64 2147483647)))], some (42, false)⟩,
⟨some 46, .pick, [.t 42, .k (.c (.s (.bool true))), .t 45], none⟩,
⟨some 47, .mv, [.t 46], none⟩,
⟨some 48, .mv, [.t 2], some (47, false)⟩,
⟨some 49, .mv, [.t 13], some (47, false)⟩,
⟨some 50, .bin .add, [.t 48, .t 49], some (47, false)⟩,
⟨some 51, .mv, [.t 3], some (47, false)⟩,
⟨some 52, .bin .gtr, [.t 50, .t 51], some (47, false)⟩,
⟨some 53, .pick, [.t 47, .k (.c (.s (.bool true))), .t 52], none⟩]) (.cond (.t 53) (.seq (.reg [⟨some 54, .build [.int .i64 0, .str []] [], [], none⟩,
⟨none, .store 2 true, [.t 8, .t 54], none⟩,
⟨some 9, .mv, [.k (.c (.s (.int .i64 0)))], none⟩]) (.ret)) (.skip))) (.seq (.reg [⟨some 14, .allocB (135, 5), [], none⟩]) (.seq (.seq (.reg [⟨some 55, .mv, [.t 13], none⟩,
⟨some 56, .bin .sub, [.t 55, .k (.c (.s (.int .i64 1)))], none⟩,
⟨some 57, .mv, [.k (.c (.s (.int .i64 0)))], none⟩]) (.block 0 (.loop (.seq (.reg [⟨some 58, .bin .lss, [.t 57, .t 56], none⟩]) (.seq (.cond (.t 58) (.skip) (.exit 0)) (.seq (.block 1 (.seq (.reg [⟨some 59, .mv, [.t 57], none⟩,
⟨some 15, .mv, [.t 59], none⟩]) (.reg [⟨some 60, .load 2 true, [.t 4], none⟩,
⟨some 61, .mv, [.t 2], none⟩,
⟨some 62, .bin .add, [.t 61, .k (.c (.s (.int .i64 1)))], none⟩,
⟨some 63, .mv, [.t 15], none⟩,
⟨some 64, .bin .add, [.t 62, .t 63], none⟩,
⟨some 65, .call 40, [.t 60, .t 64], none⟩,
⟨some 66, .slcS true false, [.t 65, .k (.c (.s (.int .i64 1)))], none⟩,
⟨some 67, .bldStr 74 (135, 5), [.t 14, .t 66], none⟩]))) (.reg [⟨some 68, .bin .add, [.t 57, .k (.c (.s (.int .i64 1)))], none⟩,
⟨some 57, .mv, [.t 68], none⟩]))))))) (.seq (.reg [⟨some 69, .bldGet 75 (135, 5), [.t 14], none⟩,
⟨some 70, .mv, [.t 12], none⟩,
⟨some 71, .slcS false true, [.t 69, .t 70], none⟩,
⟨some 72, .fadr 1, [.t 11], none⟩,
⟨none, .store 1 false, [.t 72, .t 71], none⟩]) (.seq (.reg [⟨some 74, .mv, [.t 1], none⟩,
⟨some 75, .load 2 true, [.t 11], none⟩,
⟨some 76, .call 51, [.t 74, .t 75], none⟩,
⟨some 73, .mv, [.t 76], none⟩,
⟨some 77, .ext 0, [.t 73], none⟩,
⟨some 78, .ext 1, [.t 73], none⟩,
⟨some 16, .mv, [.t 77], none⟩,
⟨some 17, .mv, [.t 78], none⟩]) (.seq (.seq (.reg [⟨some 79, .mv, [.t 16], none⟩,
⟨some 80, .mv, [.t 10], none⟩,
⟨some 81, .bin .neq, [.t 79, .t 80], none⟩]) (.cond (.t 81) (.seq (.reg [⟨some 82, .build [.int .i64 0, .str []] [], [], none⟩,
⟨none, .store 2 true, [.t 8, .t 82], none⟩,
⟨some 9, .mv, [.k (.c (.s (.int .i64 0)))], none⟩]) (.ret)) (.skip))) (.seq (.seq (.reg [⟨some 83, .mv, [.t 17], none⟩,
⟨some 84, .len false, [.t 83], none⟩,
⟨some 85, .mv, [.k (.c (.s (.int .i64 0)))], none⟩]) (.block 2 (.loop (.seq (.reg [⟨some 86, .bin .lss, [.t 85, .t 84], none⟩]) (.seq (.cond (.t 86) (.skip) (.exit 2)) (.seq (.block 3 (.seq (.reg [⟨some 87, .mv, [.t 85], none⟩,
⟨some 88, .iadr 1, [.t 83, .t 85], none⟩,
⟨some 89, .load 1 false, [.t 88], none⟩,
⟨some 18, .mv, [.t 87], none⟩,
⟨some 19, .mv, [.t 89], none⟩]) (.seq (.reg [⟨some 90, .load 2 true, [.t 4], none⟩,
⟨some 91, .mv, [.t 2], none⟩,
⟨some 92, .bin .add, [.t 91, .k (.c (.s (.int .i64 1)))], none⟩,
⟨some 93, .mv, [.t 18], none⟩,
⟨some 94, .bin .add, [.t 92, .t 93], none⟩,
⟨some 95, .call 40, [.t 90, .t 94], none⟩,
⟨some 96, .mv, [.t 19], none⟩,
⟨some 97, .bin .neq, [.t 95, .t 96], none⟩]) (.cond (.t 97) (.seq (.reg [⟨some 98, .build [.int .i64 0, .str []] [], [], none⟩,
⟨none, .store 2 true, [.t 8, .t 98], none⟩,
⟨some 9, .mv, [.k (.c (.s (.int .i64 0)))], none⟩]) (.ret)) (.skip))))) (.reg [⟨some 99, .bin .add, [.t 85, .k (.c (.s (.int .i64 1)))], none⟩,
⟨some 85, .mv, [.t 99], none⟩]))))))) (.seq (.reg [⟨some 100, .load 2 true, [.t 11], none⟩,
⟨some 101, .mv, [.t 13], none⟩,
⟨none, .store 2 true, [.t 8, .t 100], none⟩,
⟨some 9, .mv, [.t 101], none⟩]) (.ret)))))))))))))
noncomputable def G_log_record : FuncId → Ab.Spec := addS (addS (addS (noS) 40 (plain lreadG)) 41 (plain numberG)) 51 (plain sectorsG)
theorem G_log_record_ok : ∀ f, Contract Try.prog f (G_log_record f) := (addS_ok (addS_ok (addS_ok (noS_ok _) contract_log_read) contract_log_number) contract_log_sectors)
theorem G44_40 : G_log_record 40 = plain lreadG := by simp [G_log_record, addS]
theorem G44_41 : G_log_record 41 = plain numberG := by simp [G_log_record, addS]
theorem G44_51 : G_log_record 51 = plain sectorsG := by simp [G_log_record, addS]
set_option maxHeartbeats 16000000 in
set_option maxRecDepth 1000000 in
set_option linter.unusedSimpArgs false in
set_option linter.unusedVariables false in
theorem contract_log_record : Contract Try.prog 44 (plain recordG) := by
  have hb : ∃ c, Try.f44.body = some c ∧ codeOk 102 c = true ∧ cCode Try.prog c = sc_log_record := ⟨_, rfl, by kernel_rfl, by kernel_rfl⟩
  obtain ⟨c, hb1, hb2, hb3⟩ := hb
  refine contract_of (n := 4) G_log_record_ok hB hD Try.func44 hb1 (by kernel_rfl) hb2 hb3 (rs := [.cell 8 2 true, .tmp 9]) (by kernel_rfl) (by decide) ?_ ?_
  · intro args x h
    obtain ⟨y, hy, -⟩ := Option.map_eq_some_iff.1 h
    obtain ⟨⟨ss, cs, f, g, gn, a, e⟩, rfl, -⟩ := specE_some hy
    rfl
  · intro args r hr
    obtain ⟨y, hy, rfl⟩ := Option.map_eq_some_iff.1 hr
    obtain ⟨⟨ss, cs, f, g, gn, a, e⟩, rfl, hc, rfl⟩ := specE_some hy
    clear hr hy
    have hc : rightD ⟨ss, cs⟩ = true ∧ (0 ≤ gn ∧ gn < 4294967296) ∧ 0 ≤ a ∧ a < e ∧ e ≤ ss.length := hc
    change awp _ _ (postQ _ (.v (.tup [.inr [.s (.int .i64 (oneD ⟨ss, cs⟩ gn a e).1.num), .s (.str (oneD ⟨ss, cs⟩ gn a e).1.text)], .inl (.s (.int .i64 (oneD ⟨ss, cs⟩ gn a e).2))]))) _
    unfold recordG_enc sc_log_record
    obtain ⟨hr, ⟨hg0, hg1⟩, ha0, hae, hel⟩ := hc
    obtain ⟨A, rfl⟩ : ∃ A : Nat, a = A := ⟨a.toNat, by omega⟩
    obtain ⟨F, rfl⟩ : ∃ F : Nat, e = F := ⟨e.toNat, by omega⟩
    obtain ⟨q1, q2, q3, -, -⟩ := (right_iff _).1 hr
    simp only at q1 q2 q3
    have c1 : ss.length < 4000000 := by omega
    have c2 : cs.length < 4000000 := by omega
    have hrd : ∀ i : Nat, i < ss.length → readD ⟨ss, cs⟩ (i : Int) = (getS ⟨ss, cs⟩ i, 0) := fun i hi => read_in hr hi
    have hln : ∀ i : Nat, i < ss.length → (getS ⟨ss, cs⟩ i).length = 32 := fun i hi => getS_len hr hi
    have hrA := hrd A (by omega)
    have hlA := hln A (by omega)
    have hod : oneD ⟨ss, cs⟩ gn A F = oneV (oneR (getS ⟨ss, cs⟩) gn.toNat A F) := rfl
    rw [hod]
    generalize getS ⟨ss, cs⟩ = rd at *
    have hd5 : 4 ≤ ((rd A).drop 5).length := by rw [List.length_drop]; omega
    have hd9 : 4 ≤ ((rd A).drop 9).length := by rw [List.length_drop]; omega
    have hs5 : (5 : Int) ≤ ((rd A).length : Int) := by omega
    have hs9 : (9 : Int) ≤ ((rd A).length : Int) := by omega
    have v5 := num4_lt ((rd A).drop 5)
    have v9 := num4_lt ((rd A).drop 9)
    have hone : oneR rd gn.toNat A F = if 1200 < num4 ((rd A).drop 9) ∨ num4 ((rd A).drop 5) < 1 ∨ maxNum < num4 ((rd A).drop 5) ∨ F < A + manyN (num4 ((rd A).drop 9)) then none
      else if secs gn.toNat (recR rd A) = (List.range (manyN (num4 ((rd A).drop 9)))).map (fun i => rd (A + i)) then some (recR rd A, manyN (num4 ((rd A).drop 9))) else none := rfl
    have hrec : recR rd A = ⟨(num4 ((rd A).drop 5) : Nat), textR rd A (num4 ((rd A).drop 9))⟩ := rfl
    generalize hn5 : num4 ((rd A).drop 5) = n5 at *
    generalize hn9 : num4 ((rd A).drop 9) = n9 at *
    have em : (1 : Int) + ((n9 : Int) + 31 - 1) / 31 = (manyN n9 : Nat) := by unfold manyN; omega
    have em1 : manyN n9 = 1 + (n9 + 30) / 31 := rfl
    have b9 : -9223372036854775808 ≤ (n9 : Int) + 31 ∧ (n9 : Int) + 31 ≤ 9223372036854775807 ∧ -9223372036854775808 ≤ (n9 : Int) + 31 - 1 ∧ (n9 : Int) + 31 - 1 ≤ 9223372036854775807 ∧ 0 ≤ (n9 : Int) + 31 - 1 := by omega
    have b9' : (((n9 : Int) + 31 - 1) / 31) ≤ 9223372036854775806 := by omega
    have b9'' : 0 ≤ (((n9 : Int) + 31 - 1) / 31) := by omega
    by_cases h1 : 1200 < n9
    case pos =>
      have h1' : 1200 < (n9 : Int) := by omega
      rw [hone, if_pos (.inl h1)]
      simp (maxSteps := 4000000) only [↓exT_call G44_40, ↓exT_callo G44_40, ↓exT_calloG G44_40, ↓exT_call G44_41, ↓exT_callo G44_41, ↓exT_calloG G44_41, ↓exT_call G44_51, ↓exT_callo G44_51, ↓exT_calloG G44_51, c1, c2, hrA, hd5, hd9, hs5, hs9, hn5, hn9, em, h1', oneV, go_sem, Nat.reduceAdd, Nat.reduceSub, Nat.reduceMul, Nat.reduceEqDiff, Nat.reduceLeDiff, Nat.reduceLT, Nat.reduceBEq, Int.reduceLE, Int.reduceLT, Int.reduceToNat, Int.reduceNeg, Int.reduceAdd, Int.reduceSub, Int.reduceMul, ↓reduceIte]
      all_goals (try simp +contextual (maxSteps := 4000000) only [↓exT_call G44_40, ↓exT_callo G44_40, ↓exT_calloG G44_40, ↓exT_call G44_41, ↓exT_callo G44_41, ↓exT_calloG G44_41, ↓exT_call G44_51, ↓exT_callo G44_51, ↓exT_calloG G44_51, c1, c2, hrA, hd5, hd9, hs5, hs9, hn5, hn9, em, h1', oneV, go_sem, Nat.reduceAdd, Nat.reduceSub, Nat.reduceMul, Nat.reduceEqDiff, Nat.reduceLeDiff, Nat.reduceLT, Nat.reduceBEq, Int.reduceLE, Int.reduceLT, Int.reduceToNat, Int.reduceNeg, Int.reduceAdd, Int.reduceSub, Int.reduceMul, ↓reduceIte])
      all_goals ((repeat' (first | with_reducible apply And.intro | intro)) <;> first | omega | (with_reducible rfl) | skip)
    by_cases h2 : n5 < 1
    case pos =>
      have h1' : ¬ 1200 < (n9 : Int) := by omega
      have h2' : (n5 : Int) < 1 := by omega
      rw [hone, if_pos (.inr (.inl h2))]
      simp (maxSteps := 4000000) only [↓exT_call G44_40, ↓exT_callo G44_40, ↓exT_calloG G44_40, ↓exT_call G44_41, ↓exT_callo G44_41, ↓exT_calloG G44_41, ↓exT_call G44_51, ↓exT_callo G44_51, ↓exT_calloG G44_51, c1, c2, hrA, hd5, hd9, hs5, hs9, hn5, hn9, em, h1', h2', oneV, go_sem, Nat.reduceAdd, Nat.reduceSub, Nat.reduceMul, Nat.reduceEqDiff, Nat.reduceLeDiff, Nat.reduceLT, Nat.reduceBEq, Int.reduceLE, Int.reduceLT, Int.reduceToNat, Int.reduceNeg, Int.reduceAdd, Int.reduceSub, Int.reduceMul, ↓reduceIte]
      all_goals (try simp +contextual (maxSteps := 4000000) only [↓exT_call G44_40, ↓exT_callo G44_40, ↓exT_calloG G44_40, ↓exT_call G44_41, ↓exT_callo G44_41, ↓exT_calloG G44_41, ↓exT_call G44_51, ↓exT_callo G44_51, ↓exT_calloG G44_51, c1, c2, hrA, hd5, hd9, hs5, hs9, hn5, hn9, em, h1', h2', oneV, go_sem, Nat.reduceAdd, Nat.reduceSub, Nat.reduceMul, Nat.reduceEqDiff, Nat.reduceLeDiff, Nat.reduceLT, Nat.reduceBEq, Int.reduceLE, Int.reduceLT, Int.reduceToNat, Int.reduceNeg, Int.reduceAdd, Int.reduceSub, Int.reduceMul, ↓reduceIte])
      all_goals ((repeat' (first | with_reducible apply And.intro | intro)) <;> first | omega | (with_reducible rfl) | skip)
    by_cases h3 : maxNum < n5
    case pos =>
      have h1' : ¬ 1200 < (n9 : Int) := by omega
      have h2' : ¬ (n5 : Int) < 1 := by omega
      have h3' : 2147483647 < (n5 : Int) := by unfold maxNum at h3; omega
      rw [hone, if_pos (.inr (.inr (.inl h3)))]
      simp (maxSteps := 4000000) only [↓exT_call G44_40, ↓exT_callo G44_40, ↓exT_calloG G44_40, ↓exT_call G44_41, ↓exT_callo G44_41, ↓exT_calloG G44_41, ↓exT_call G44_51, ↓exT_callo G44_51, ↓exT_calloG G44_51, c1, c2, hrA, hd5, hd9, hs5, hs9, hn5, hn9, em, h1', h2', h3', oneV, go_sem, Nat.reduceAdd, Nat.reduceSub, Nat.reduceMul, Nat.reduceEqDiff, Nat.reduceLeDiff, Nat.reduceLT, Nat.reduceBEq, Int.reduceLE, Int.reduceLT, Int.reduceToNat, Int.reduceNeg, Int.reduceAdd, Int.reduceSub, Int.reduceMul, ↓reduceIte]
      all_goals (try simp +contextual (maxSteps := 4000000) only [↓exT_call G44_40, ↓exT_callo G44_40, ↓exT_calloG G44_40, ↓exT_call G44_41, ↓exT_callo G44_41, ↓exT_calloG G44_41, ↓exT_call G44_51, ↓exT_callo G44_51, ↓exT_calloG G44_51, c1, c2, hrA, hd5, hd9, hs5, hs9, hn5, hn9, em, h1', h2', h3', oneV, go_sem, Nat.reduceAdd, Nat.reduceSub, Nat.reduceMul, Nat.reduceEqDiff, Nat.reduceLeDiff, Nat.reduceLT, Nat.reduceBEq, Int.reduceLE, Int.reduceLT, Int.reduceToNat, Int.reduceNeg, Int.reduceAdd, Int.reduceSub, Int.reduceMul, ↓reduceIte])
      all_goals ((repeat' (first | with_reducible apply And.intro | intro)) <;> first | omega | (with_reducible rfl) | skip)
    by_cases h4 : F < A + manyN n9
    case pos =>
      have h1' : ¬ 1200 < (n9 : Int) := by omega
      have h2' : ¬ (n5 : Int) < 1 := by omega
      have h3' : ¬ 2147483647 < (n5 : Int) := by unfold maxNum at h3; omega
      have h4' : (F : Int) < (A : Int) + (manyN n9 : Nat) := by omega
      rw [hone, if_pos (.inr (.inr (.inr h4)))]
      simp (maxSteps := 4000000) only [↓exT_call G44_40, ↓exT_callo G44_40, ↓exT_calloG G44_40, ↓exT_call G44_41, ↓exT_callo G44_41, ↓exT_calloG G44_41, ↓exT_call G44_51, ↓exT_callo G44_51, ↓exT_calloG G44_51, c1, c2, hrA, hd5, hd9, hs5, hs9, hn5, hn9, em, h1', h2', h3', h4', oneV, go_sem, Nat.reduceAdd, Nat.reduceSub, Nat.reduceMul, Nat.reduceEqDiff, Nat.reduceLeDiff, Nat.reduceLT, Nat.reduceBEq, Int.reduceLE, Int.reduceLT, Int.reduceToNat, Int.reduceNeg, Int.reduceAdd, Int.reduceSub, Int.reduceMul, ↓reduceIte]
      all_goals (try simp +contextual (maxSteps := 4000000) only [↓exT_call G44_40, ↓exT_callo G44_40, ↓exT_calloG G44_40, ↓exT_call G44_41, ↓exT_callo G44_41, ↓exT_calloG G44_41, ↓exT_call G44_51, ↓exT_callo G44_51, ↓exT_calloG G44_51, c1, c2, hrA, hd5, hd9, hs5, hs9, hn5, hn9, em, h1', h2', h3', h4', oneV, go_sem, Nat.reduceAdd, Nat.reduceSub, Nat.reduceMul, Nat.reduceEqDiff, Nat.reduceLeDiff, Nat.reduceLT, Nat.reduceBEq, Int.reduceLE, Int.reduceLT, Int.reduceToNat, Int.reduceNeg, Int.reduceAdd, Int.reduceSub, Int.reduceMul, ↓reduceIte])
      all_goals ((repeat' (first | with_reducible apply And.intro | intro)) <;> first | omega | (with_reducible rfl) | skip)
    have h1' : ¬ 1200 < (n9 : Int) := by omega
    have h2' : ¬ (n5 : Int) < 1 := by omega
    have h3' : ¬ 2147483647 < (n5 : Int) := by unfold maxNum at h3; omega
    have h4' : ¬ (F : Int) < (A : Int) + (manyN n9 : Nat) := by omega
    have hnot : ¬ (1200 < n9 ∨ n5 < 1 ∨ maxNum < n5 ∨ F < A + manyN n9) := by omega
    rw [if_neg hnot] at hone
    have hmn : maxNum = 2147483647 := rfl
    simp (maxSteps := 4000000) only [↓exT_call G44_40, ↓exT_callo G44_40, ↓exT_calloG G44_40, ↓exT_call G44_41, ↓exT_callo G44_41, ↓exT_calloG G44_41, ↓exT_call G44_51, ↓exT_callo G44_51, ↓exT_calloG G44_51, c1, c2, hrA, hd5, hd9, hs5, hs9, hn5, hn9, em, h1', h2', h3', h4', go_sem, Nat.reduceAdd, Nat.reduceSub, Nat.reduceMul, Nat.reduceEqDiff, Nat.reduceLeDiff, Nat.reduceLT, Nat.reduceBEq, Int.reduceLE, Int.reduceLT, Int.reduceToNat, Int.reduceNeg, Int.reduceAdd, Int.reduceSub, Int.reduceMul, ↓reduceIte]
    all_goals ((repeat' (first | with_reducible apply And.intro | intro)) <;> first | omega | (with_reducible rfl) | skip)
    refine awp_loopM (α := Nat) (fun i => [(1, .c (.s (.int .i64 gn))), (2, .c (.s (.int .i64 A))), (4, .c (.ptr 4 0)), (8, .c (.ptr 8 0)), (10, .c (.s (.str (rd A)))), (11, .c (.ptr 11 0)), (12, .c (.s (.int .i64 n9))), (13, .c (.s (.int .i64 (manyN n9 : Nat)))), (14, .c (.ptr 14 0)), (56, .c (.s (.int .i64 ((manyN n9 : Nat) - 1)))), (57, .c (.s (.int .i64 i)))])
      (fun i => [(4, .box [.s (.list 1 (encs strE ss) f), .s (.list 2 (encs wrE cs) g)]), (8, .box [.s (.int .i64 0), .s (.str [])]), (11, .box [.s (.int .i64 n5), .s (.str [])]), (14, .bld (135, 5) (joinR rd (A + 1) i))]) (fun i => manyN n9 - i) 0 (fun i => i ≤ manyN n9 - 1) (Nat.zero_le _) (Weak.meets ?_) ?_
    · simp +contextual (maxSteps := 4000000) only [↓exT_call G44_40, ↓exT_callo G44_40, ↓exT_calloG G44_40, ↓exT_call G44_41, ↓exT_callo G44_41, ↓exT_calloG G44_41, ↓exT_call G44_51, ↓exT_callo G44_51, ↓exT_calloG G44_51, go_sem, Nat.reduceAdd, Nat.reduceSub, Nat.reduceMul, Nat.reduceEqDiff, Nat.reduceLeDiff, Nat.reduceLT, Nat.reduceBEq, Int.reduceLE, Int.reduceLT, Int.reduceToNat, Int.reduceNeg, Int.reduceAdd, Int.reduceSub, Int.reduceMul, ↓reduceIte]
      simp [joinR]
    intro x hx
    have hjl := joinR_len (rd := rd) (a := A + 1) (n := x) (fun i hi => hln _ (by omega))
    by_cases hxl : x < manyN n9 - 1
    · have hxi : (x : Int) < ((manyN n9 : Nat) : Int) - 1 := by omega
      have hrx := hrd (A + 1 + x) (by omega)
      have hlx := hln (A + 1 + x) (by omega)
      have ecast : ((A : Int) + 1 + (x : Int)) = ((A + 1 + x : Nat) : Int) := by omega
      have hsx : (1 : Int) ≤ ((rd (A + 1 + x)).length : Int) := by omega
      have hj := joinR_succ rd (A + 1) x
      simp (maxSteps := 4000000) only [↓exT_call G44_40, ↓exT_callo G44_40, ↓exT_calloG G44_40, ↓exT_call G44_41, ↓exT_callo G44_41, ↓exT_calloG G44_41, ↓exT_call G44_51, ↓exT_callo G44_51, ↓exT_calloG G44_51, hxi, ecast, hrx, hsx, c1, c2, hjl, go_sem, Nat.reduceAdd, Nat.reduceSub, Nat.reduceMul, Nat.reduceEqDiff, Nat.reduceLeDiff, Nat.reduceLT, Nat.reduceBEq, Int.reduceLE, Int.reduceLT, Int.reduceToNat, Int.reduceNeg, Int.reduceAdd, Int.reduceSub, Int.reduceMul, ↓reduceIte]
      refine ⟨by omega, by omega, by rw [List.length_drop]; omega, by omega, x + 1, by omega, by omega, by omega, ?_⟩
      rw [hj]
    have hxi : ¬ (x : Int) < ((manyN n9 : Nat) : Int) - 1 := by omega
    obtain rfl : x = manyN n9 - 1 := by omega
    have htx : (joinR rd (A + 1) (manyN n9 - 1)).take n9 = textR rd A n9 := rfl
    have htl : (textR rd A n9).length = n9 := by rw [← htx, List.length_take]; omega
    have hjl' : (n9 : Int) ≤ ((joinR rd (A + 1) (manyN n9 - 1)).length : Int) := by omega
    have hg1' : (textR rd A n9).length < 4000000 := by omega
    have hn5' : (n5 : Int) < 4294967296 := by omega
    have hjl2 : (joinR rd (A + 1) (manyN n9 - 1)).length < 35184372088832 := by omega
    generalize hT : textR rd A n9 = T at *
    have hse := secs_eq (rd := rd) (g := gn.toNat) (at_ := A) (r := ⟨(n5 : Nat), T⟩) (m := manyN n9) (by rw [secs_len, htl])
    rw [hrec] at hone
    have hbl := body_eq_len ⟨(n5 : Nat), T⟩
    simp only [htl] at hbl
    by_cases hhd : headS gn.toNat ⟨(n5 : Nat), T⟩ = rd A
    case neg =>
      rw [if_neg (fun h => hhd (hse.1 h).1)] at hone
      rw [hone]
      simp (maxSteps := 4000000) only [↓exT_call G44_40, ↓exT_callo G44_40, ↓exT_calloG G44_40, ↓exT_call G44_41, ↓exT_callo G44_41, ↓exT_calloG G44_41, ↓exT_call G44_51, ↓exT_callo G44_51, ↓exT_calloG G44_51, hxi, htx, hjl', hjl2, hg1', hg0, hg1, hn5', hhd, oneV, go_sem, Nat.reduceAdd, Nat.reduceSub, Nat.reduceMul, Nat.reduceEqDiff, Nat.reduceLeDiff, Nat.reduceLT, Nat.reduceBEq, Int.reduceLE, Int.reduceLT, Int.reduceToNat, Int.reduceNeg, Int.reduceAdd, Int.reduceSub, Int.reduceMul, ↓reduceIte]
    simp (maxSteps := 4000000) only [↓exT_call G44_40, ↓exT_callo G44_40, ↓exT_calloG G44_40, ↓exT_call G44_41, ↓exT_callo G44_41, ↓exT_calloG G44_41, ↓exT_call G44_51, ↓exT_callo G44_51, ↓exT_calloG G44_51, hxi, htx, hjl', hjl2, hg1', hg0, hg1, hn5', hhd, go_sem, Nat.reduceAdd, Nat.reduceSub, Nat.reduceMul, Nat.reduceEqDiff, Nat.reduceLeDiff, Nat.reduceLT, Nat.reduceBEq, Int.reduceLE, Int.reduceLT, Int.reduceToNat, Int.reduceNeg, Int.reduceAdd, Int.reduceSub, Int.reduceMul, ↓reduceIte]
    all_goals ((repeat' (first | with_reducible apply And.intro | intro)) <;> first | omega | (with_reducible rfl) | skip)
    refine awp_loopM (α := Nat) (fun i => [(2, .c (.s (.int .i64 A))), (4, .c (.ptr 4 0)), (8, .c (.ptr 8 0)), (11, .c (.ptr 11 0)), (13, .c (.s (.int .i64 (manyN n9 : Nat)))), (83, .c (.s (.list 1 (encs strE (bodyS ⟨(n5 : Nat), T⟩)) false))), (84, .c (.s (.int .i64 (bodyS ⟨(n5 : Nat), T⟩).length))), (85, .c (.s (.int .i64 i)))])
      (fun i => [(4, .box [.s (.list 1 (encs strE ss) f), .s (.list 2 (encs wrE cs) g)]), (8, .box [.s (.int .i64 0), .s (.str [])]), (11, .box [.s (.int .i64 n5), .s (.str T)])]) (fun i => (bodyS ⟨(n5 : Nat), T⟩).length - i) 0 (fun i => i ≤ (bodyS ⟨(n5 : Nat), T⟩).length ∧ ∀ j, j < i → rd (A + 1 + j) = (bodyS ⟨(n5 : Nat), T⟩).getD j default) ⟨Nat.zero_le _, fun j h => by omega⟩ (Weak.meets ?_) ?_
    · simp (maxSteps := 4000000) only [↓exT_call G44_40, ↓exT_callo G44_40, ↓exT_calloG G44_40, ↓exT_call G44_41, ↓exT_callo G44_41, ↓exT_calloG G44_41, ↓exT_call G44_51, ↓exT_callo G44_51, ↓exT_calloG G44_51, go_sem, Nat.reduceAdd, Nat.reduceSub, Nat.reduceMul, Nat.reduceEqDiff, Nat.reduceLeDiff, Nat.reduceLT, Nat.reduceBEq, Int.reduceLE, Int.reduceLT, Int.reduceToNat, Int.reduceNeg, Int.reduceAdd, Int.reduceSub, Int.reduceMul, ↓reduceIte]
      simp
    rintro y ⟨hy, hw⟩
    by_cases hyl : y < (bodyS ⟨(n5 : Nat), T⟩).length
    · have hyi : (y : Int) < ((bodyS ⟨(n5 : Nat), T⟩).length : Int) := by omega
      have hrx := hrd (A + 1 + y) (by omega)
      have ecast : ((A : Int) + 1 + (y : Int)) = ((A + 1 + y : Nat) : Int) := by omega
      by_cases he : rd (A + 1 + y) = (bodyS ⟨(n5 : Nat), T⟩).getD y default
      · simp (maxSteps := 4000000) only [↓exT_call G44_40, ↓exT_callo G44_40, ↓exT_calloG G44_40, ↓exT_call G44_41, ↓exT_callo G44_41, ↓exT_calloG G44_41, ↓exT_call G44_51, ↓exT_callo G44_51, ↓exT_calloG G44_51, hyi, ecast, hrx, c1, c2, he, go_sem, Nat.reduceAdd, Nat.reduceSub, Nat.reduceMul, Nat.reduceEqDiff, Nat.reduceLeDiff, Nat.reduceLT, Nat.reduceBEq, Int.reduceLE, Int.reduceLT, Int.reduceToNat, Int.reduceNeg, Int.reduceAdd, Int.reduceSub, Int.reduceMul, ↓reduceIte]
        refine ⟨by omega, by omega, by omega, y + 1, ⟨by omega, fun j hj => ?_⟩, by omega, by omega⟩
        by_cases h : j = y
        · subst h; exact he
        · exact hw j (by omega)
      · rw [if_neg (fun h => he ((hse.1 h).2 y hyl))] at hone
        rw [hone]
        simp (maxSteps := 4000000) only [↓exT_call G44_40, ↓exT_callo G44_40, ↓exT_calloG G44_40, ↓exT_call G44_41, ↓exT_callo G44_41, ↓exT_calloG G44_41, ↓exT_call G44_51, ↓exT_callo G44_51, ↓exT_calloG G44_51, hyi, ecast, hrx, c1, c2, he, oneV, go_sem, Nat.reduceAdd, Nat.reduceSub, Nat.reduceMul, Nat.reduceEqDiff, Nat.reduceLeDiff, Nat.reduceLT, Nat.reduceBEq, Int.reduceLE, Int.reduceLT, Int.reduceToNat, Int.reduceNeg, Int.reduceAdd, Int.reduceSub, Int.reduceMul, ↓reduceIte]
        all_goals ((repeat' (first | with_reducible apply And.intro | intro)) <;> first | omega | (with_reducible rfl) | skip)
    · have hyi : ¬ (y : Int) < ((bodyS ⟨(n5 : Nat), T⟩).length : Int) := by omega
      obtain rfl : y = (bodyS ⟨(n5 : Nat), T⟩).length := by omega
      rw [if_pos (hse.2 ⟨hhd, hw⟩)] at hone
      rw [hone]
      simp (maxSteps := 4000000) only [↓exT_call G44_40, ↓exT_callo G44_40, ↓exT_calloG G44_40, ↓exT_call G44_41, ↓exT_callo G44_41, ↓exT_calloG G44_41, ↓exT_call G44_51, ↓exT_callo G44_51, ↓exT_calloG G44_51, hyi, oneV, go_sem, Nat.reduceAdd, Nat.reduceSub, Nat.reduceMul, Nat.reduceEqDiff, Nat.reduceLeDiff, Nat.reduceLT, Nat.reduceBEq, Int.reduceLE, Int.reduceLT, Int.reduceToNat, Int.reduceNeg, Int.reduceAdd, Int.reduceSub, Int.reduceMul, ↓reduceIte]

end Go.Proofs.Ytniioedflegdkaa

/- The functions of package log, third part: what a disk has. -/
namespace Go.Proofs.Ytniioedflegdkaa
open Go Go.Ab Go.Proofs Go.Fs
theorem rec_snoc {l : List Rec} {n : Int} {t : Bs} : encs recE l ++ [[.int .i64 n, .str t]] = encs recE (l ++ [⟨n, t⟩]) := by rw [encs_append]; rfl
def scanG_enc : (List Bs) × (List Wr) × (Bool) × (Bool) → List V := fun ⟨ss, cs, f, g⟩ => [.agg [.s (.list 1 (encs strE ss) f), .s (.list 2 (encs wrE cs) g)]]
theorem scanG_inj : ∀ x y, scanG_enc x = scanG_enc y → x = y := by
  rintro ⟨ss, cs, f, g⟩ ⟨ss2, cs2, f2, g2⟩ h
  simp only [scanG_enc, List.cons.injEq, V.c.injEq, V.agg.injEq, C.s.injEq, S.list.injEq, S.str.injEq, S.int.injEq, S.bool.injEq, S.fn.injEq, S.cref.injEq, strE_inj, true_and, and_true, wrE_inj] at h
  simp_all
noncomputable def scanG : List V → Option (V) := specE scanG_enc (fun ⟨ss, cs, f, g⟩ => ss.length < 4000000 ∧ cs.length < 4000000) (fun ⟨ss, cs, f, g⟩ => .tup [.inr [.s (.int .i64 ((scanD ⟨ss, cs⟩).1.gen : Nat)), .s (.list 2 (encs recE (scanD ⟨ss, cs⟩).1.recs) false), .s (.int .i64 ((scanD ⟨ss, cs⟩).1.next : Nat))], .inl (.s (.int .i64 (scanD ⟨ss, cs⟩).2))])
theorem scanG_eq {ss : List Bs} {cs : List Wr} {f : Bool} {g : Bool} [Decidable (ss.length < 4000000 ∧ cs.length < 4000000)] : scanG [.agg [.s (.list 1 (encs strE ss) f), .s (.list 2 (encs wrE cs) g)]] = if ss.length < 4000000 ∧ cs.length < 4000000 then some (.tup [.inr [.s (.int .i64 ((scanD ⟨ss, cs⟩).1.gen : Nat)), .s (.list 2 (encs recE (scanD ⟨ss, cs⟩).1.recs) false), .s (.int .i64 ((scanD ⟨ss, cs⟩).1.next : Nat))], .inl (.s (.int .i64 (scanD ⟨ss, cs⟩).2))]) else none := specE_eq scanG_inj (ss, cs, f, g)
theorem scanG_call {ss : List Bs} {cs : List Wr} {f : Bool} {g : Bool} {gt : Bool} {K : V → Prop} : callE scanG [.agg [.s (.list 1 (encs strE ss) f), .s (.list 2 (encs wrE cs) g)]] gt K = ((gt = true → ss.length < 4000000 ∧ cs.length < 4000000) ∧ bindV (ifV gt (.tup [.inr [.s (.int .i64 ((scanD ⟨ss, cs⟩).1.gen : Nat)), .s (.list 2 (encs recE (scanD ⟨ss, cs⟩).1.recs) false), .s (.int .i64 ((scanD ⟨ss, cs⟩).1.next : Nat))], .inl (.s (.int .i64 (scanD ⟨ss, cs⟩).2))])) K) := by
  have := Classical.propDecidable (ss.length < 4000000 ∧ cs.length < 4000000)
  exact callE_of scanG_eq
theorem scanG_callo {ss : List Bs} {cs : List Wr} {f : Bool} {g : Bool} {m : Nat → Option Ab.Obj} {locs : List Nat} {K : V → (Nat → Option Ab.Obj) → Prop} : callO scanG (some [.agg [.s (.list 1 (encs strE ss) f), .s (.list 2 (encs wrE cs) g)]]) m locs K = ((ss.length < 4000000 ∧ cs.length < 4000000) ∧ K (.tup [.inr [.s (.int .i64 ((scanD ⟨ss, cs⟩).1.gen : Nat)), .s (.list 2 (encs recE (scanD ⟨ss, cs⟩).1.recs) false), .s (.int .i64 ((scanD ⟨ss, cs⟩).1.next : Nat))], .inl (.s (.int .i64 (scanD ⟨ss, cs⟩).2))]) (sealW m locs (.tup [.inr [.s (.int .i64 ((scanD ⟨ss, cs⟩).1.gen : Nat)), .s (.list 2 (encs recE (scanD ⟨ss, cs⟩).1.recs) false), .s (.int .i64 ((scanD ⟨ss, cs⟩).1.next : Nat))], .inl (.s (.int .i64 (scanD ⟨ss, cs⟩).2))]))) := by
  have := Classical.propDecidable (ss.length < 4000000 ∧ cs.length < 4000000)
  exact callO_of scanG_eq
attribute [go_sem] scanG_call scanG_callo

def sc_log_Scan : SC := .seq (.reg [⟨some 1, .box 2, [.t 0], none⟩,
⟨some 2, .alloc [.int .i64 0, .list 0 [] true, .int .i64 0], [], none⟩,
⟨some 3, .mv, [.k (.c (.s (.int .i64 0)))], none⟩]) (.seq (.seq (.reg [⟨some 12, .load 2 true, [.t 1], none⟩,
⟨some 13, .call 39, [.t 12], none⟩,
⟨some 14, .not, [.t 13], none⟩,
⟨some 15, .mv, [.t 14], none⟩,
⟨some 16, .fadr 0, [.t 1], some (15, false)⟩,
⟨some 17, .load 1 false, [.t 16], some (15, false)⟩,
⟨some 18, .len false, [.t 17], some (15, false)⟩,
⟨some 19, .bin .lss, [.t 18, .k (.c (.s (.int .i64 9)))], some (15, false)⟩,
⟨some 20, .pick, [.t 15, .k (.c (.s (.bool true))), .t 19], none⟩]) (.cond (.t 20) (.seq (.reg [⟨some 21, .build [.int .i64 0, .list 0 [] true, .int .i64 0] [], [], none⟩,
⟨none, .store 3 true, [.t 2, .t 21], none⟩,
⟨some 3, .mv, [.k (.c (.s (.int .i64 1)))], none⟩]) (.ret)) (.skip))) (.seq (.reg [⟨some 22, .load 2 true, [.t 1], none⟩,
⟨some 23, .call 40, [.t 22, .k (.c (.s (.int .i64 0)))], none⟩,
⟨some 4, .mv, [.t 23], none⟩]) (.seq (.reg [⟨some 24, .mv, [.t 4], none⟩,
⟨some 25, .slcS true false, [.t 24, .k (.c (.s (.int .i64 1)))], none⟩,
⟨some 26, .call 41, [.t 25], none⟩,
⟨some 5, .mv, [.t 26], none⟩]) (.seq (.seq (.reg [⟨some 27, .mv, [.t 5], none⟩,
⟨some 28, .bin .gtr, [.t 27, .k (.c (.s (.int .i64 2147483647)))], none⟩,
⟨some 29, .mv, [.t 28], none⟩,
⟨some 30, .mv, [.t 4], some (29, false)⟩,
⟨some 31, .mv, [.t 5], some (29, false)⟩,
⟨some 32, .call 42, [.t 31], some (29, false)⟩,
⟨some 33, .bin .neq, [.t 30, .t 32], some (29, false)⟩,
⟨some 34, .pick, [.t 29, .k (.c (.s (.bool true))), .t 33], none⟩]) (.cond (.t 34) (.seq (.reg [⟨some 35, .build [.int .i64 0, .list 0 [] true, .int .i64 0] [], [], none⟩,
⟨none, .store 3 true, [.t 2, .t 35], none⟩,
⟨some 3, .mv, [.k (.c (.s (.int .i64 2)))], none⟩]) (.ret)) (.skip))) (.seq (.reg [⟨some 37, .load 2 true, [.t 1], none⟩,
⟨some 38, .mv, [.t 5], none⟩,
⟨some 39, .call 43, [.t 37, .t 38], none⟩,
⟨some 36, .mv, [.t 39], none⟩,
⟨some 40, .ext 0, [.t 36], none⟩,
⟨some 41, .ext 1, [.t 36], none⟩,
⟨some 6, .mv, [.t 40], none⟩,
⟨some 7, .mv, [.t 41], none⟩]) (.seq (.reg [⟨some 42, .mv, [.t 5], none⟩,
⟨some 43, .build [.int .i64 0, .list 0 [] true, .int .i64 0] [(0, 1)], [.t 42], none⟩,
⟨some 8, .alloc [.int .i64 0, .list 0 [] true, .int .i64 0], [], none⟩,
⟨none, .store 3 true, [.t 8, .t 43], none⟩]) (.seq (.reg [⟨some 9, .mv, [.k (.c (.s (.list 0 [] true)))], none⟩]) (.seq (.block 0 (.loop (.seq (.seq (.reg [⟨some 44, .mv, [.t 6], none⟩,
⟨some 45, .mv, [.t 7], none⟩,
⟨some 46, .bin .lss, [.t 44, .t 45], none⟩]) (.cond (.t 46) (.skip) (.exit 0))) (.block 1 (.seq (.reg [⟨some 48, .load 2 true, [.t 1], none⟩,
⟨some 49, .mv, [.t 5], none⟩,
⟨some 50, .mv, [.t 6], none⟩,
⟨some 51, .mv, [.t 7], none⟩,
⟨some 52, .call 44, [.t 48, .t 49, .t 50, .t 51], none⟩,
⟨some 47, .mv, [.t 52], none⟩,
⟨some 53, .ext 0, [.t 47], none⟩,
⟨some 54, .ext 1, [.t 47], none⟩,
⟨some 10, .alloc [.int .i64 0, .str []], [], none⟩,
⟨none, .store 2 true, [.t 10, .t 53], none⟩,
⟨some 11, .mv, [.t 54], none⟩]) (.seq (.seq (.regD [⟨some 55, .mv, [.t 11], none⟩,
⟨some 56, .bin .eql, [.t 55, .k (.c (.s (.int .i64 0)))], none⟩,
⟨some 57, .mv, [.t 56], none⟩,
⟨some 58, .mv, [.t 9], some (57, false)⟩,
⟨some 59, .len false, [.t 58], some (57, false)⟩,
⟨some 60, .bin .gtr, [.t 59, .k (.c (.s (.int .i64 0)))], some (57, false)⟩,
⟨some 61, .mv, [.t 60], some (57, false)⟩,
⟨some 62, .fadr 0, [.t 10], some (61, true)⟩,
⟨some 63, .load 1 false, [.t 62], some (61, true)⟩,
⟨some 64, .mv, [.t 9], some (61, true)⟩,
⟨some 65, .mv, [.t 9], some (61, true)⟩,
⟨some 66, .len false, [.t 65], some (61, true)⟩,
⟨some 67, .bin .sub, [.t 66, .k (.c (.s (.int .i64 1)))], some (61, true)⟩,
⟨some 68, .iadr 2, [.t 64, .t 67], some (61, true)⟩,
⟨some 69, .fadr 0, [.t 68], some (61, true)⟩,
⟨some 70, .load 1 false, [.t 69], some (61, true)⟩,
⟨some 71, .bin .add, [.t 70, .k (.c (.s (.int .i64 1)))], some (61, true)⟩,
⟨some 72, .bin .neq, [.t 63, .t 71], some (61, true)⟩,
⟨some 73, .pick, [.t 61, .t 72, .k (.c (.s (.bool false)))], some (57, false)⟩,
⟨some 74, .pick, [.t 57, .k (.c (.s (.bool true))), .t 73], none⟩] []) (.cond (.t 74) (.exit 0) (.skip))) (.seq (.reg [⟨some 75, .mv, [.t 9], none⟩,
⟨some 76, .load 2 true, [.t 10], none⟩,
⟨some 77, .bslice 2 1 [.int .i64 0, .str []] [0], [.t 76], none⟩,
⟨some 78, .append false 2 24, [.t 75, .t 77], none⟩,
⟨some 9, .mv, [.t 78], none⟩]) (.reg [⟨some 79, .mv, [.t 6], none⟩,
⟨some 80, .mv, [.t 11], none⟩,
⟨some 81, .bin .add, [.t 79, .t 80], none⟩,
⟨some 6, .mv, [.t 81], none⟩])))))))) (.seq (.reg [⟨some 82, .mv, [.t 9], none⟩,
⟨some 83, .mv, [.t 6], none⟩,
⟨some 84, .fadr 1, [.t 8], none⟩,
⟨none, .store 1 false, [.t 84, .t 82], none⟩,
⟨some 85, .fadr 2, [.t 8], none⟩,
⟨none, .store 1 false, [.t 85, .t 83], none⟩]) (.seq (.reg [⟨some 86, .load 3 true, [.t 8], none⟩,
⟨none, .store 3 true, [.t 2, .t 86], none⟩,
⟨some 3, .mv, [.k (.c (.s (.int .i64 0)))], none⟩]) (.ret)))))))))))
noncomputable def G_log_Scan : FuncId → Ab.Spec := addS (addS (addS (addS (addS (addS (noS) 39 (plain rightG)) 40 (plain lreadG)) 41 (plain numberG)) 42 (plain markG)) 43 (plain areaG)) 44 (plain recordG)
theorem G_log_Scan_ok : ∀ f, Contract Try.prog f (G_log_Scan f) := (addS_ok (addS_ok (addS_ok (addS_ok (addS_ok (addS_ok (noS_ok _) contract_disk_Right) contract_log_read) contract_log_number) contract_log_mark) contract_log_area) contract_log_record)
theorem G16_39 : G_log_Scan 39 = plain rightG := by simp [G_log_Scan, addS]
theorem G16_40 : G_log_Scan 40 = plain lreadG := by simp [G_log_Scan, addS]
theorem G16_41 : G_log_Scan 41 = plain numberG := by simp [G_log_Scan, addS]
theorem G16_42 : G_log_Scan 42 = plain markG := by simp [G_log_Scan, addS]
theorem G16_43 : G_log_Scan 43 = plain areaG := by simp [G_log_Scan, addS]
theorem G16_44 : G_log_Scan 44 = plain recordG := by simp [G_log_Scan, addS]
set_option maxHeartbeats 16000000 in
set_option maxRecDepth 1000000 in
set_option linter.unusedSimpArgs false in
set_option linter.unusedVariables false in
theorem contract_log_Scan : Contract Try.prog 16 (plain scanG) := by
  have hb : ∃ c, Try.f16.body = some c ∧ codeOk 87 c = true ∧ cCode Try.prog c = sc_log_Scan := ⟨_, rfl, by kernel_rfl, by kernel_rfl⟩
  obtain ⟨c, hb1, hb2, hb3⟩ := hb
  refine contract_of (n := 1) G_log_Scan_ok hB hD Try.func16 hb1 (by kernel_rfl) hb2 hb3 (rs := [.cell 2 3 true, .tmp 3]) (by kernel_rfl) (by decide) ?_ ?_
  · intro args x h
    obtain ⟨y, hy, -⟩ := Option.map_eq_some_iff.1 h
    obtain ⟨⟨ss, cs, f, g⟩, rfl, -⟩ := specE_some hy
    rfl
  · intro args r hr
    obtain ⟨y, hy, rfl⟩ := Option.map_eq_some_iff.1 hr
    obtain ⟨⟨ss, cs, f, g⟩, rfl, hc, rfl⟩ := specE_some hy
    clear hr hy
    have hc : ss.length < 4000000 ∧ cs.length < 4000000 := hc
    change awp _ _ (postQ _ (.v (.tup [.inr [.s (.int .i64 ((scanD ⟨ss, cs⟩).1.gen : Nat)), .s (.list 2 (encs recE (scanD ⟨ss, cs⟩).1.recs) false), .s (.int .i64 ((scanD ⟨ss, cs⟩).1.next : Nat))], .inl (.s (.int .i64 (scanD ⟨ss, cs⟩).2))]))) _
    unfold scanG_enc sc_log_Scan
    obtain ⟨c1, c2⟩ := hc
    cases hr : rightD ⟨ss, cs⟩ with
    | false =>
      have hs : scanD ⟨ss, cs⟩ = (⟨0, [], 0⟩, 1) := by unfold scanD; rw [if_pos (.inl hr)]
      rw [hs]
      simp (maxSteps := 4000000) only [↓exT_call G16_39, ↓exT_callo G16_39, ↓exT_calloG G16_39, ↓exT_call G16_40, ↓exT_callo G16_40, ↓exT_calloG G16_40, ↓exT_call G16_41, ↓exT_callo G16_41, ↓exT_calloG G16_41, ↓exT_call G16_42, ↓exT_callo G16_42, ↓exT_calloG G16_42, ↓exT_call G16_43, ↓exT_callo G16_43, ↓exT_calloG G16_43, ↓exT_call G16_44, ↓exT_callo G16_44, ↓exT_calloG G16_44, c1, c2, hr, go_sem, Nat.reduceAdd, Nat.reduceSub, Nat.reduceMul, Nat.reduceEqDiff, Nat.reduceLeDiff, Nat.reduceLT, Nat.reduceBEq, Int.reduceLE, Int.reduceLT, Int.reduceToNat, Int.reduceNeg, Int.reduceAdd, Int.reduceSub, Int.reduceMul, ↓reduceIte]
      all_goals (try simp +contextual (maxSteps := 4000000) only [↓exT_call G16_39, ↓exT_callo G16_39, ↓exT_calloG G16_39, ↓exT_call G16_40, ↓exT_callo G16_40, ↓exT_calloG G16_40, ↓exT_call G16_41, ↓exT_callo G16_41, ↓exT_calloG G16_41, ↓exT_call G16_42, ↓exT_callo G16_42, ↓exT_calloG G16_42, ↓exT_call G16_43, ↓exT_callo G16_43, ↓exT_calloG G16_43, ↓exT_call G16_44, ↓exT_callo G16_44, ↓exT_calloG G16_44, c1, c2, hr, go_sem, Nat.reduceAdd, Nat.reduceSub, Nat.reduceMul, Nat.reduceEqDiff, Nat.reduceLeDiff, Nat.reduceLT, Nat.reduceBEq, Int.reduceLE, Int.reduceLT, Int.reduceToNat, Int.reduceNeg, Int.reduceAdd, Int.reduceSub, Int.reduceMul, ↓reduceIte])
      all_goals ((repeat' (first | with_reducible apply And.intro | intro)) <;> first | omega | (with_reducible rfl) | skip)
    | true =>
    by_cases h9 : ss.length < 9
    case pos =>
      have hs : scanD ⟨ss, cs⟩ = (⟨0, [], 0⟩, 1) := by unfold scanD; rw [if_pos (.inr h9)]
      have h9' : (ss.length : Int) < 9 := by omega
      rw [hs]
      simp (maxSteps := 4000000) only [↓exT_call G16_39, ↓exT_callo G16_39, ↓exT_calloG G16_39, ↓exT_call G16_40, ↓exT_callo G16_40, ↓exT_calloG G16_40, ↓exT_call G16_41, ↓exT_callo G16_41, ↓exT_calloG G16_41, ↓exT_call G16_42, ↓exT_callo G16_42, ↓exT_calloG G16_42, ↓exT_call G16_43, ↓exT_callo G16_43, ↓exT_calloG G16_43, ↓exT_call G16_44, ↓exT_callo G16_44, ↓exT_calloG G16_44, c1, c2, hr, h9', go_sem, Nat.reduceAdd, Nat.reduceSub, Nat.reduceMul, Nat.reduceEqDiff, Nat.reduceLeDiff, Nat.reduceLT, Nat.reduceBEq, Int.reduceLE, Int.reduceLT, Int.reduceToNat, Int.reduceNeg, Int.reduceAdd, Int.reduceSub, Int.reduceMul, ↓reduceIte]
      all_goals (try simp +contextual (maxSteps := 4000000) only [↓exT_call G16_39, ↓exT_callo G16_39, ↓exT_calloG G16_39, ↓exT_call G16_40, ↓exT_callo G16_40, ↓exT_calloG G16_40, ↓exT_call G16_41, ↓exT_callo G16_41, ↓exT_calloG G16_41, ↓exT_call G16_42, ↓exT_callo G16_42, ↓exT_calloG G16_42, ↓exT_call G16_43, ↓exT_callo G16_43, ↓exT_calloG G16_43, ↓exT_call G16_44, ↓exT_callo G16_44, ↓exT_calloG G16_44, c1, c2, hr, h9', go_sem, Nat.reduceAdd, Nat.reduceSub, Nat.reduceMul, Nat.reduceEqDiff, Nat.reduceLeDiff, Nat.reduceLT, Nat.reduceBEq, Int.reduceLE, Int.reduceLT, Int.reduceToNat, Int.reduceNeg, Int.reduceAdd, Int.reduceSub, Int.reduceMul, ↓reduceIte])
      all_goals ((repeat' (first | with_reducible apply And.intro | intro)) <;> first | omega | (with_reducible rfl) | skip)
    have h9' : ¬ (ss.length : Int) < 9 := by omega
    obtain ⟨q1, q2, q3, -, -⟩ := (right_iff _).1 hr
    simp only at q1 q2 q3
    have hr0 : readD ⟨ss, cs⟩ 0 = (getS ⟨ss, cs⟩ 0, 0) := read_in hr (i := 0) (by simp only; omega)
    have hl0 : (getS ⟨ss, cs⟩ 0).length = 32 := getS_len hr (by simp only; omega)
    have hgd : num4 ((getS ⟨ss, cs⟩ 0).drop 1) = genD ⟨ss, cs⟩ := rfl
    have hgl : genD ⟨ss, cs⟩ < 4294967296 := num4_lt _
    have hs1 : (1 : Int) ≤ ((getS ⟨ss, cs⟩ 0).length : Int) := by omega
    have hd1 : 4 ≤ ((getS ⟨ss, cs⟩ 0).drop 1).length := by rw [List.length_drop]; omega
    have hsc : scanD ⟨ss, cs⟩ = if maxNum < genD ⟨ss, cs⟩ ∨ getS ⟨ss, cs⟩ 0 ≠ markS (genD ⟨ss, cs⟩) then (⟨0, [], 0⟩, 2)
      else (⟨genD ⟨ss, cs⟩, (scanAt ⟨ss, cs⟩ (genD ⟨ss, cs⟩)).1, (scanAt ⟨ss, cs⟩ (genD ⟨ss, cs⟩)).2⟩, 0) := by
      unfold scanD; rw [if_neg (by simp [hr]; omega)]
    generalize hG : genD ⟨ss, cs⟩ = G at *
    have hmn : maxNum = 2147483647 := rfl
    by_cases hm : maxNum < G
    case pos =>
      have hm' : 2147483647 < (G : Int) := by omega
      rw [if_pos (.inl hm)] at hsc
      rw [hsc]
      simp (maxSteps := 4000000) only [↓exT_call G16_39, ↓exT_callo G16_39, ↓exT_calloG G16_39, ↓exT_call G16_40, ↓exT_callo G16_40, ↓exT_calloG G16_40, ↓exT_call G16_41, ↓exT_callo G16_41, ↓exT_calloG G16_41, ↓exT_call G16_42, ↓exT_callo G16_42, ↓exT_calloG G16_42, ↓exT_call G16_43, ↓exT_callo G16_43, ↓exT_calloG G16_43, ↓exT_call G16_44, ↓exT_callo G16_44, ↓exT_calloG G16_44, c1, c2, hr, h9', hr0, hs1, hd1, hgd, hm', go_sem, Nat.reduceAdd, Nat.reduceSub, Nat.reduceMul, Nat.reduceEqDiff, Nat.reduceLeDiff, Nat.reduceLT, Nat.reduceBEq, Int.reduceLE, Int.reduceLT, Int.reduceToNat, Int.reduceNeg, Int.reduceAdd, Int.reduceSub, Int.reduceMul, ↓reduceIte]
      all_goals (try simp +contextual (maxSteps := 4000000) only [↓exT_call G16_39, ↓exT_callo G16_39, ↓exT_calloG G16_39, ↓exT_call G16_40, ↓exT_callo G16_40, ↓exT_calloG G16_40, ↓exT_call G16_41, ↓exT_callo G16_41, ↓exT_calloG G16_41, ↓exT_call G16_42, ↓exT_callo G16_42, ↓exT_calloG G16_42, ↓exT_call G16_43, ↓exT_callo G16_43, ↓exT_calloG G16_43, ↓exT_call G16_44, ↓exT_callo G16_44, ↓exT_calloG G16_44, c1, c2, hr, h9', hr0, hs1, hd1, hgd, hm', go_sem, Nat.reduceAdd, Nat.reduceSub, Nat.reduceMul, Nat.reduceEqDiff, Nat.reduceLeDiff, Nat.reduceLT, Nat.reduceBEq, Int.reduceLE, Int.reduceLT, Int.reduceToNat, Int.reduceNeg, Int.reduceAdd, Int.reduceSub, Int.reduceMul, ↓reduceIte])
      all_goals ((repeat' (first | with_reducible apply And.intro | intro)) <;> first | omega | (with_reducible rfl) | skip)
    have hm' : ¬ 2147483647 < (G : Int) := by omega
    by_cases hk : getS ⟨ss, cs⟩ 0 = markS G
    case neg =>
      rw [if_pos (.inr hk)] at hsc
      rw [hsc]
      simp (maxSteps := 4000000) only [↓exT_call G16_39, ↓exT_callo G16_39, ↓exT_calloG G16_39, ↓exT_call G16_40, ↓exT_callo G16_40, ↓exT_calloG G16_40, ↓exT_call G16_41, ↓exT_callo G16_41, ↓exT_calloG G16_41, ↓exT_call G16_42, ↓exT_callo G16_42, ↓exT_calloG G16_42, ↓exT_call G16_43, ↓exT_callo G16_43, ↓exT_calloG G16_43, ↓exT_call G16_44, ↓exT_callo G16_44, ↓exT_calloG G16_44, c1, c2, hr, h9', hr0, hs1, hd1, hgd, hm', hk, go_sem, Nat.reduceAdd, Nat.reduceSub, Nat.reduceMul, Nat.reduceEqDiff, Nat.reduceLeDiff, Nat.reduceLT, Nat.reduceBEq, Int.reduceLE, Int.reduceLT, Int.reduceToNat, Int.reduceNeg, Int.reduceAdd, Int.reduceSub, Int.reduceMul, ↓reduceIte]
      all_goals (try simp +contextual (maxSteps := 4000000) only [↓exT_call G16_39, ↓exT_callo G16_39, ↓exT_calloG G16_39, ↓exT_call G16_40, ↓exT_callo G16_40, ↓exT_calloG G16_40, ↓exT_call G16_41, ↓exT_callo G16_41, ↓exT_calloG G16_41, ↓exT_call G16_42, ↓exT_callo G16_42, ↓exT_calloG G16_42, ↓exT_call G16_43, ↓exT_callo G16_43, ↓exT_calloG G16_43, ↓exT_call G16_44, ↓exT_callo G16_44, ↓exT_calloG G16_44, c1, c2, hr, h9', hr0, hs1, hd1, hgd, hm', hk, go_sem, Nat.reduceAdd, Nat.reduceSub, Nat.reduceMul, Nat.reduceEqDiff, Nat.reduceLeDiff, Nat.reduceLT, Nat.reduceBEq, Int.reduceLE, Int.reduceLT, Int.reduceToNat, Int.reduceNeg, Int.reduceAdd, Int.reduceSub, Int.reduceMul, ↓reduceIte])
      all_goals ((repeat' (first | with_reducible apply And.intro | intro)) <;> first | omega | (with_reducible rfl) | skip)
    rw [if_neg (fun h => h.elim hm (fun h => h hk))] at hsc
    have hff := from_fit (n := ss.length) (g := G) (by omega)
    have hst := got_start ⟨ss, cs⟩ G
    have hrs : (scanD ⟨ss, cs⟩).1.gen = G ∧ (scanD ⟨ss, cs⟩).1.recs = (scanAt ⟨ss, cs⟩ G).1 ∧ (scanD ⟨ss, cs⟩).1.next = (scanAt ⟨ss, cs⟩ G).2 ∧ (scanD ⟨ss, cs⟩).2 = 0 := by rw [hsc]; exact ⟨rfl, rfl, rfl, rfl⟩
    simp only at hst
    generalize htot : scanAt ⟨ss, cs⟩ G = tot at *
    have hod : ∀ a e : Nat, oneD ⟨ss, cs⟩ (G : Int) a e = oneV (oneR (getS ⟨ss, cs⟩) G a e) := fun a e => rfl
    generalize getS ⟨ss, cs⟩ = rd at *
    rw [hrs.1, hrs.2.1, hrs.2.2.1, hrs.2.2.2]
    clear hrs hsc htot
    have hk2 : (rd 0 = markS G) = True := eq_true hk
    have hG1 : (G : Int) < 4294967296 := by omega
    have hq1 : 1 ≤ ss.length ∧ ss.length ≤ 300 := ⟨q1, q2⟩
    generalize hA : fromN ss.length G = A0 at *
    generalize hF : A0 + halfN ss.length = F at *
    simp (maxSteps := 4000000) only [↓exT_call G16_39, ↓exT_callo G16_39, ↓exT_calloG G16_39, ↓exT_call G16_40, ↓exT_callo G16_40, ↓exT_calloG G16_40, ↓exT_call G16_41, ↓exT_callo G16_41, ↓exT_calloG G16_41, ↓exT_call G16_42, ↓exT_callo G16_42, ↓exT_calloG G16_42, ↓exT_call G16_43, ↓exT_callo G16_43, ↓exT_calloG G16_43, ↓exT_call G16_44, ↓exT_callo G16_44, ↓exT_calloG G16_44, c1, c2, hr, h9', hr0, hs1, hd1, hgd, hm', hk2, hG1, q1, q2, hA, hF, go_sem, Nat.reduceAdd, Nat.reduceSub, Nat.reduceMul, Nat.reduceEqDiff, Nat.reduceLeDiff, Nat.reduceLT, Nat.reduceBEq, Int.reduceLE, Int.reduceLT, Int.reduceToNat, Int.reduceNeg, Int.reduceAdd, Int.reduceSub, Int.reduceMul, ↓reduceIte]
    all_goals ((repeat' (first | with_reducible apply And.intro | intro)) <;> first | omega | (with_reducible rfl) | skip)
    refine awp_loopM (α := List Rec × Nat × Nat) (fun y => [(1, .c (.ptr 1 0)), (2, .c (.ptr 2 0)), (5, .c (.s (.int .i64 G))), (6, .c (.s (.int .i64 y.2.1))), (7, .c (.s (.int .i64 F))), (8, .c (.ptr 8 0)), (9, .c (.own 9 y.1.length))])
      (fun y => [(1, .box [.s (.list 1 (encs strE ss) f), .s (.list 2 (encs wrE cs) g)]), (2, .box [.s (.int .i64 0), .s (.list 0 [] true), .s (.int .i64 0)]), (8, .box [.s (.int .i64 G), .s (.list 0 [] true), .s (.int .i64 0)]), (9, .row 2 (encs recE y.1))]) (fun y => F - y.2.1) ([], A0, halfN ss.length) (fun y => Got rd G F A0 tot y.1 y.2.1 y.2.2 ∧ y.2.1 ≤ F) ⟨hst, by simp only; omega⟩ (Weak.trans (Weak.nilSlot 9 9 2 rfl rfl) (Weak.meets ?_)) ?_
    · simp (maxSteps := 4000000) only [↓exT_call G16_39, ↓exT_callo G16_39, ↓exT_calloG G16_39, ↓exT_call G16_40, ↓exT_callo G16_40, ↓exT_calloG G16_40, ↓exT_call G16_41, ↓exT_callo G16_41, ↓exT_calloG G16_41, ↓exT_call G16_42, ↓exT_callo G16_42, ↓exT_calloG G16_42, ↓exT_call G16_43, ↓exT_callo G16_43, ↓exT_calloG G16_43, ↓exT_call G16_44, ↓exT_callo G16_44, ↓exT_calloG G16_44, go_sem, Nat.reduceAdd, Nat.reduceSub, Nat.reduceMul, Nat.reduceEqDiff, Nat.reduceLeDiff, Nat.reduceLT, Nat.reduceBEq, Int.reduceLE, Int.reduceLT, Int.reduceToNat, Int.reduceNeg, Int.reduceAdd, Int.reduceSub, Int.reduceMul, ↓reduceIte]
    rintro ⟨l, a, fu⟩ ⟨hgot, hle⟩
    simp only at hgot hle
    have hl : (encs recE l).length = l.length := by simp [encs]
    have hlow := hgot.low
    have hlen := hgot.len
    by_cases haf : a < F
    case neg =>
      have he := got_end hgot (.inl (by omega))
      have haf' : ¬ (a : Int) < (F : Int) := by omega
      rw [he]
      simp (maxSteps := 4000000) only [↓exT_call G16_39, ↓exT_callo G16_39, ↓exT_calloG G16_39, ↓exT_call G16_40, ↓exT_callo G16_40, ↓exT_calloG G16_40, ↓exT_call G16_41, ↓exT_callo G16_41, ↓exT_calloG G16_41, ↓exT_call G16_42, ↓exT_callo G16_42, ↓exT_calloG G16_42, ↓exT_call G16_43, ↓exT_callo G16_43, ↓exT_calloG G16_43, ↓exT_call G16_44, ↓exT_callo G16_44, ↓exT_calloG G16_44, haf', go_sem, Nat.reduceAdd, Nat.reduceSub, Nat.reduceMul, Nat.reduceEqDiff, Nat.reduceLeDiff, Nat.reduceLT, Nat.reduceBEq, Int.reduceLE, Int.reduceLT, Int.reduceToNat, Int.reduceNeg, Int.reduceAdd, Int.reduceSub, Int.reduceMul, ↓reduceIte]
    have haf' : (a : Int) < (F : Int) := by omega
    have hFl : (F : Int) ≤ (ss.length : Int) := by omega
    cases ho : oneR rd G a F with
    | none =>
      have he := got_end hgot (.inr (.inl ho))
      rw [he]
      have hod' : oneD ⟨ss, cs⟩ (G : Int) a F = (⟨0, []⟩, 0) := by rw [hod, ho]; rfl
      simp (maxSteps := 4000000) only [↓exT_call G16_39, ↓exT_callo G16_39, ↓exT_calloG G16_39, ↓exT_call G16_40, ↓exT_callo G16_40, ↓exT_calloG G16_40, ↓exT_call G16_41, ↓exT_callo G16_41, ↓exT_calloG G16_41, ↓exT_call G16_42, ↓exT_callo G16_42, ↓exT_calloG G16_42, ↓exT_call G16_43, ↓exT_callo G16_43, ↓exT_calloG G16_43, ↓exT_call G16_44, ↓exT_callo G16_44, ↓exT_calloG G16_44, haf', hod', hr, hG1, hFl, hl, go_sem, Nat.reduceAdd, Nat.reduceSub, Nat.reduceMul, Nat.reduceEqDiff, Nat.reduceLeDiff, Nat.reduceLT, Nat.reduceBEq, Int.reduceLE, Int.reduceLT, Int.reduceToNat, Int.reduceNeg, Int.reduceAdd, Int.reduceSub, Int.reduceMul, ↓reduceIte]
    | some p =>
    obtain ⟨r, n⟩ := p
    obtain ⟨-, p1, p2, -, -, p5, p6⟩ := one_hd hgl ho
    have hod' : oneD ⟨ss, cs⟩ (G : Int) a F = (r, (n : Int)) := by rw [hod, ho]; rfl
    have hn0 : ¬ (n : Int) = 0 := by omega
    have hfo : ∀ hf : follows (lastOr none l) r = true, Got rd G F A0 tot (l ++ [r]) (a + n) (fu - 1) := fun hf => (got_step hgot hgl haf ho hf).1
    by_cases hle0 : l = []
    · subst hle0
      have hf : follows (lastOr none []) r = true := rfl
      have hz : ¬ (0 : Int) < ((0 : Nat) : Int) := by omega
      simp (maxSteps := 4000000) only [↓exT_call G16_39, ↓exT_callo G16_39, ↓exT_calloG G16_39, ↓exT_call G16_40, ↓exT_callo G16_40, ↓exT_calloG G16_40, ↓exT_call G16_41, ↓exT_callo G16_41, ↓exT_calloG G16_41, ↓exT_call G16_42, ↓exT_callo G16_42, ↓exT_calloG G16_42, ↓exT_call G16_43, ↓exT_callo G16_43, ↓exT_calloG G16_43, ↓exT_call G16_44, ↓exT_callo G16_44, ↓exT_calloG G16_44, haf', hod', hr, hG1, hFl, hl, hn0, rec_snoc, hz, go_sem, Nat.reduceAdd, Nat.reduceSub, Nat.reduceMul, Nat.reduceEqDiff, Nat.reduceLeDiff, Nat.reduceLT, Nat.reduceBEq, Int.reduceLE, Int.reduceLT, Int.reduceToNat, Int.reduceNeg, Int.reduceAdd, Int.reduceSub, Int.reduceMul, ↓reduceIte]
      exact ⟨by omega, ([r], a + n, fu - 1), ⟨hfo hf, p5⟩, by simp only; omega, ⟨by simp only; omega, rfl⟩, rfl⟩
    · have hll : l.length ≠ 0 := fun h => hle0 (List.length_eq_zero_iff.1 h)
      have hz : (0 : Int) < (l.length : Int) := by omega
      have hla := lastOr_ne hle0
      have hll2 := hgot.nums _ (mem_getD (l := l) (i := l.length - 1) (by omega))
      have eix : ((l.length : Int) - 1).toNat = l.length - 1 := by omega
      have hfe : follows (lastOr none l) r = decide (r.num = (l.getD (l.length - 1) default).num + 1) := by rw [hla]; rfl
      have hix : (0 : Int) ≤ (l.length : Int) - 1 ∧ (l.length : Int) - 1 < (l.length : Int) := by omega
      have hge : (encs recE l).getD (l.length - 1) [] = recE (l.getD (l.length - 1) default) := encs_getN (by omega)
      generalize hlr : (l.getD (l.length - 1) default).num = ln at *
      by_cases hnx : r.num = ln + 1
      · have := hfo (by rw [hfe]; exact decide_eq_true hnx)
        simp (maxSteps := 4000000) only [↓exT_call G16_39, ↓exT_callo G16_39, ↓exT_calloG G16_39, ↓exT_call G16_40, ↓exT_callo G16_40, ↓exT_calloG G16_40, ↓exT_call G16_41, ↓exT_callo G16_41, ↓exT_calloG G16_41, ↓exT_call G16_42, ↓exT_callo G16_42, ↓exT_calloG G16_42, ↓exT_call G16_43, ↓exT_callo G16_43, ↓exT_calloG G16_43, ↓exT_call G16_44, ↓exT_callo G16_44, ↓exT_calloG G16_44, haf', hod', hr, hG1, hFl, hl, hn0, rec_snoc, hz, hix.1, hix.2, eix, hge, hlr, hnx, go_sem, Nat.reduceAdd, Nat.reduceSub, Nat.reduceMul, Nat.reduceEqDiff, Nat.reduceLeDiff, Nat.reduceLT, Nat.reduceBEq, Int.reduceLE, Int.reduceLT, Int.reduceToNat, Int.reduceNeg, Int.reduceAdd, Int.reduceSub, Int.reduceMul, ↓reduceIte]
        have hr2 : (⟨ln + 1, r.text⟩ : Rec) = r := by rw [← hnx]
        exact ⟨by omega, by omega, by omega, by omega, (l ++ [r], a + n, fu - 1), ⟨this, p5⟩, by simp only; omega, ⟨by simp only; omega, by simp⟩, by rw [hr2]⟩
      · have he := got_end hgot (.inr (.inr ⟨r, n, ho, by rw [hfe]; exact decide_eq_false hnx⟩))
        rw [he]
        simp (maxSteps := 4000000) only [↓exT_call G16_39, ↓exT_callo G16_39, ↓exT_calloG G16_39, ↓exT_call G16_40, ↓exT_callo G16_40, ↓exT_calloG G16_40, ↓exT_call G16_41, ↓exT_callo G16_41, ↓exT_calloG G16_41, ↓exT_call G16_42, ↓exT_callo G16_42, ↓exT_calloG G16_42, ↓exT_call G16_43, ↓exT_callo G16_43, ↓exT_calloG G16_43, ↓exT_call G16_44, ↓exT_callo G16_44, ↓exT_calloG G16_44, haf', hod', hr, hG1, hFl, hl, hn0, rec_snoc, hz, hix.1, hix.2, eix, hge, hlr, hnx, go_sem, Nat.reduceAdd, Nat.reduceSub, Nat.reduceMul, Nat.reduceEqDiff, Nat.reduceLeDiff, Nat.reduceLT, Nat.reduceBEq, Int.reduceLE, Int.reduceLT, Int.reduceToNat, Int.reduceNeg, Int.reduceAdd, Int.reduceSub, Int.reduceMul, ↓reduceIte]
        omega

end Go.Proofs.Ytniioedflegdkaa

/- The functions of package log, fourth part: an append. -/
namespace Go.Proofs.Ytniioedflegdkaa
open Go Go.Ab Go.Proofs Go.Fs
def writeG : List V → Option V
  | [.c (.s (.int .i64 a)), .c (.s (.str s))] => some (.agg [.s (.bool false), .s (.int .i64 a), .s (.str s)])
  | _ => none
theorem writeG_call {a : Int} {s : Bs} {gt : Bool} {K : V → Prop} : callE writeG [.c (.s (.int .i64 a)), .c (.s (.str s))] gt K = bindV (ifV gt (.agg [.s (.bool false), .s (.int .i64 a), .s (.str s)])) K := callE_all rfl
theorem writeG_callo {a : Int} {s : Bs} {m : Nat → Option Ab.Obj} {locs : List Nat} {K : V → (Nat → Option Ab.Obj) → Prop} : callO writeG (some [.c (.s (.int .i64 a)), .c (.s (.str s))]) m locs K = K (.agg [.s (.bool false), .s (.int .i64 a), .s (.str s)]) (sealW m locs (.agg [.s (.bool false), .s (.int .i64 a), .s (.str s)])) := callO_all rfl
attribute [go_sem] writeG_call writeG_callo

def sc_log_write : SC := .seq (.reg [⟨some 4, .alloc [.bool false, .int .i64 0, .str []], [], none⟩]) (.seq (.reg [⟨some 5, .mv, [.t 0], none⟩,
⟨some 6, .mv, [.t 1], none⟩,
⟨some 7, .build [.int .i64 0, .str []] [(0, 1), (1, 1)], [.t 5, .t 6], none⟩,
⟨some 8, .build [.bool false, .int .i64 0, .str []] [(1, 2)], [.t 7], none⟩,
⟨none, .store 3 true, [.t 4, .t 8], none⟩]) (.ret))
noncomputable def G_log_write : FuncId → Ab.Spec := noS
theorem G_log_write_ok : ∀ f, Contract Try.prog f (G_log_write f) := (noS_ok _)
set_option maxHeartbeats 16000000 in
set_option maxRecDepth 1000000 in
set_option linter.unusedSimpArgs false in
set_option linter.unusedVariables false in
theorem contract_log_write : Contract Try.prog 52 (plain writeG) := by
  have hb : ∃ c, Try.f52.body = some c ∧ codeOk 9 c = true ∧ cCode Try.prog c = sc_log_write := ⟨_, rfl, by kernel_rfl, by kernel_rfl⟩
  obtain ⟨c, hb1, hb2, hb3⟩ := hb
  refine contract_of (n := 2) G_log_write_ok hB hD Try.func52 hb1 (by kernel_rfl) hb2 hb3 (rs := [.cell 4 3 true]) (by kernel_rfl) (by decide) ?_ ?_
  · intro args x h
    unfold plain writeG at h
    split at h <;> simp_all
  · intro args r hr
    unfold plain writeG at hr
    split at hr
    case h_2 => cases hr
    rename_i a s
    simp only [Option.map_some, Option.some.injEq] at hr
    subst hr
    unfold sc_log_write
    simp +contextual (maxSteps := 4000000) only [go_sem, Nat.reduceAdd, Nat.reduceSub, Nat.reduceMul, Nat.reduceEqDiff, Nat.reduceLeDiff, Nat.reduceLT, Nat.reduceBEq, Int.reduceLE, Int.reduceLT, Int.reduceToNat, Int.reduceNeg, Int.reduceAdd, Int.reduceSub, Int.reduceMul, ↓reduceIte]

theorem ops_one {ws : List Wr} {a : Int} {s : Bs} : encs opE (opsW ws) ++ [[.bool false, .int .i64 a, .str s]] = encs opE (opsW (ws ++ [⟨a, s⟩])) := by rw [opsW_append, encs_append]; rfl
theorem ops_three {l : List DOp} {a : Int} {s : Bs} : encs opE l ++ [[.bool true, .int .i64 0, .str []], [.bool false, .int .i64 a, .str s], [.bool true, .int .i64 0, .str []]] = encs opE (l ++ [opS, opW a s, opS]) := by rw [encs_append]; rfl
def appendG_enc : (List Bs) × (List Wr) × (Bool) × (Bool) × (Bs) → List V := fun ⟨ss, cs, f, g, t⟩ => [.agg [.s (.list 1 (encs strE ss) f), .s (.list 2 (encs wrE cs) g)], .c (.s (.str t))]
theorem appendG_inj : ∀ x y, appendG_enc x = appendG_enc y → x = y := by
  rintro ⟨ss, cs, f, g, t⟩ ⟨ss2, cs2, f2, g2, t2⟩ h
  simp only [appendG_enc, List.cons.injEq, V.c.injEq, V.agg.injEq, C.s.injEq, S.list.injEq, S.str.injEq, S.int.injEq, S.bool.injEq, S.fn.injEq, S.cref.injEq, strE_inj, true_and, and_true, wrE_inj] at h
  simp_all
noncomputable def appendG : List V → Option (V) := specE appendG_enc (fun ⟨ss, cs, f, g, t⟩ => ss.length < 4000000 ∧ cs.length < 4000000) (fun ⟨ss, cs, f, g, t⟩ => .tup [.inl (.s (.list 3 (encs opE (appendD ⟨ss, cs⟩ t).1) false)), .inl (.s (.int .i64 (appendD ⟨ss, cs⟩ t).2))])
theorem appendG_eq {ss : List Bs} {cs : List Wr} {f : Bool} {g : Bool} {t : Bs} [Decidable (ss.length < 4000000 ∧ cs.length < 4000000)] : appendG [.agg [.s (.list 1 (encs strE ss) f), .s (.list 2 (encs wrE cs) g)], .c (.s (.str t))] = if ss.length < 4000000 ∧ cs.length < 4000000 then some (.tup [.inl (.s (.list 3 (encs opE (appendD ⟨ss, cs⟩ t).1) false)), .inl (.s (.int .i64 (appendD ⟨ss, cs⟩ t).2))]) else none := specE_eq appendG_inj (ss, cs, f, g, t)
theorem appendG_call {ss : List Bs} {cs : List Wr} {f : Bool} {g : Bool} {t : Bs} {gt : Bool} {K : V → Prop} : callE appendG [.agg [.s (.list 1 (encs strE ss) f), .s (.list 2 (encs wrE cs) g)], .c (.s (.str t))] gt K = ((gt = true → ss.length < 4000000 ∧ cs.length < 4000000) ∧ bindV (ifV gt (.tup [.inl (.s (.list 3 (encs opE (appendD ⟨ss, cs⟩ t).1) false)), .inl (.s (.int .i64 (appendD ⟨ss, cs⟩ t).2))])) K) := by
  have := Classical.propDecidable (ss.length < 4000000 ∧ cs.length < 4000000)
  exact callE_of appendG_eq
theorem appendG_callo {ss : List Bs} {cs : List Wr} {f : Bool} {g : Bool} {t : Bs} {m : Nat → Option Ab.Obj} {locs : List Nat} {K : V → (Nat → Option Ab.Obj) → Prop} : callO appendG (some [.agg [.s (.list 1 (encs strE ss) f), .s (.list 2 (encs wrE cs) g)], .c (.s (.str t))]) m locs K = ((ss.length < 4000000 ∧ cs.length < 4000000) ∧ K (.tup [.inl (.s (.list 3 (encs opE (appendD ⟨ss, cs⟩ t).1) false)), .inl (.s (.int .i64 (appendD ⟨ss, cs⟩ t).2))]) (sealW m locs (.tup [.inl (.s (.list 3 (encs opE (appendD ⟨ss, cs⟩ t).1) false)), .inl (.s (.int .i64 (appendD ⟨ss, cs⟩ t).2))]))) := by
  have := Classical.propDecidable (ss.length < 4000000 ∧ cs.length < 4000000)
  exact callO_of appendG_eq
attribute [go_sem] appendG_call appendG_callo

def sc_log_Append : SC := .seq (.reg [⟨some 2, .box 2, [.t 0], none⟩,
⟨some 4, .mv, [.k (.c (.s (.list 0 [] true)))], none⟩,
⟨some 5, .mv, [.k (.c (.s (.int .i64 0)))], none⟩]) (.seq (.reg [⟨some 18, .load 2 true, [.t 2], none⟩,
⟨some 19, .call 16, [.t 18], none⟩,
⟨some 17, .mv, [.t 19], none⟩,
⟨some 20, .ext 0, [.t 17], none⟩,
⟨some 21, .ext 1, [.t 17], none⟩,
⟨some 6, .alloc [.int .i64 0, .list 0 [] true, .int .i64 0], [], none⟩,
⟨none, .store 3 true, [.t 6, .t 20], none⟩,
⟨some 7, .mv, [.t 21], none⟩]) (.seq (.block 0 (.seq (.reg [⟨some 23, .mv, [.t 7], none⟩,
⟨some 24, .bin .neq, [.t 23, .k (.c (.s (.int .i64 0)))], none⟩,
⟨some 22, .mv, [.t 24], none⟩]) (.cond (.t 22) (.seq (.reg [⟨some 25, .mv, [.t 7], none⟩,
⟨some 4, .mv, [.k (.c (.s (.list 0 [] true)))], none⟩,
⟨some 5, .mv, [.t 25], none⟩]) (.ret)) (.seq (.reg [⟨some 27, .mv, [.t 1], none⟩,
⟨some 28, .len true, [.t 27], none⟩,
⟨some 29, .bin .gtr, [.t 28, .k (.c (.s (.int .i64 1200)))], none⟩,
⟨some 26, .mv, [.t 29], none⟩]) (.cond (.t 26) (.seq (.reg [⟨some 4, .mv, [.k (.c (.s (.list 0 [] true)))], none⟩,
⟨some 5, .mv, [.k (.c (.s (.int .i64 5)))], none⟩]) (.ret)) (.skip)))))) (.seq (.reg [⟨some 30, .mv, [.t 1], none⟩,
⟨some 31, .build [.int .i64 0, .str []] [(0, 1), (1, 1)], [.k (.c (.s (.int .i64 1))), .t 30], none⟩,
⟨some 8, .alloc [.int .i64 0, .str []], [], none⟩,
⟨none, .store 2 true, [.t 8, .t 31], none⟩]) (.seq (.seq (.reg [⟨some 32, .fadr 1, [.t 6], none⟩,
⟨some 33, .load 1 false, [.t 32], none⟩,
⟨some 34, .len false, [.t 33], none⟩,
⟨some 9, .mv, [.t 34], none⟩]) (.seq (.reg [⟨some 35, .mv, [.t 9], none⟩,
⟨some 36, .bin .gtr, [.t 35, .k (.c (.s (.int .i64 0)))], none⟩]) (.cond (.t 36) (.reg [⟨some 37, .fadr 1, [.t 6], none⟩,
⟨some 38, .load 1 false, [.t 37], none⟩,
⟨some 39, .mv, [.t 9], none⟩,
⟨some 40, .bin .sub, [.t 39, .k (.c (.s (.int .i64 1)))], none⟩,
⟨some 41, .iadr 2, [.t 38, .t 40], none⟩,
⟨some 42, .fadr 0, [.t 41], none⟩,
⟨some 43, .load 1 false, [.t 42], none⟩,
⟨some 44, .bin .add, [.t 43, .k (.c (.s (.int .i64 1)))], none⟩,
⟨some 45, .fadr 0, [.t 8], none⟩,
⟨none, .store 1 false, [.t 45, .t 44], none⟩]) (.skip)))) (.seq (.reg [⟨some 47, .fadr 0, [.t 6], none⟩,
⟨some 48, .load 1 false, [.t 47], none⟩,
⟨some 49, .load 2 true, [.t 8], none⟩,
⟨some 50, .call 51, [.t 48, .t 49], none⟩,
⟨some 46, .mv, [.t 50], none⟩,
⟨some 51, .ext 0, [.t 46], none⟩,
⟨some 52, .ext 1, [.t 46], none⟩,
⟨some 10, .mv, [.t 51], none⟩,
⟨some 11, .mv, [.t 52], none⟩]) (.seq (.seq (.reg [⟨some 54, .load 2 true, [.t 2], none⟩,
⟨some 55, .fadr 0, [.t 6], none⟩,
⟨some 56, .load 1 false, [.t 55], none⟩,
⟨some 57, .call 43, [.t 54, .t 56], none⟩,
⟨some 53, .mv, [.t 57], none⟩,
⟨some 58, .ext 0, [.t 53], none⟩,
⟨some 59, .ext 1, [.t 53], none⟩,
⟨some 12, .mv, [.t 58], none⟩,
⟨some 13, .mv, [.t 59], none⟩]) (.seq (.reg [⟨some 60, .fadr 2, [.t 6], none⟩,
⟨some 61, .load 1 false, [.t 60], none⟩,
⟨some 62, .bin .add, [.t 61, .k (.c (.s (.int .i64 1)))], none⟩,
⟨some 63, .mv, [.t 11], none⟩,
⟨some 64, .len false, [.t 63], none⟩,
⟨some 65, .bin .add, [.t 62, .t 64], none⟩,
⟨some 66, .mv, [.t 13], none⟩,
⟨some 67, .bin .gtr, [.t 65, .t 66], none⟩,
⟨some 68, .mv, [.t 67], none⟩,
⟨some 69, .fadr 0, [.t 8], some (68, false)⟩,
⟨some 70, .load 1 false, [.t 69], some (68, false)⟩,
⟨some 71, .bin .gtr, [.t 70, .k (.c (.s (.int .i64 2147483647)))], some (68, false)⟩,
⟨some 72, .pick, [.t 68, .k (.c (.s (.bool true))), .t 71], none⟩]) (.cond (.t 72) (.seq (.reg [⟨some 4, .mv, [.k (.c (.s (.list 0 [] true)))], none⟩,
⟨some 5, .mv, [.k (.c (.s (.int .i64 10)))], none⟩]) (.ret)) (.skip)))) (.seq (.reg [⟨some 14, .mv, [.k (.c (.s (.list 0 [] true)))], none⟩]) (.seq (.seq (.reg [⟨some 73, .mv, [.t 11], none⟩,
⟨some 74, .len false, [.t 73], none⟩,
⟨some 75, .mv, [.k (.c (.s (.int .i64 0)))], none⟩]) (.block 1 (.loop (.seq (.reg [⟨some 76, .bin .lss, [.t 75, .t 74], none⟩]) (.seq (.cond (.t 76) (.skip) (.exit 1)) (.seq (.block 2 (.seq (.reg [⟨some 77, .mv, [.t 75], none⟩,
⟨some 78, .iadr 1, [.t 73, .t 75], none⟩,
⟨some 79, .load 1 false, [.t 78], none⟩,
⟨some 15, .mv, [.t 77], none⟩,
⟨some 16, .mv, [.t 79], none⟩]) (.reg [⟨some 80, .mv, [.t 14], none⟩,
⟨some 81, .fadr 2, [.t 6], none⟩,
⟨some 82, .load 1 false, [.t 81], none⟩,
⟨some 83, .bin .add, [.t 82, .k (.c (.s (.int .i64 1)))], none⟩,
⟨some 84, .mv, [.t 15], none⟩,
⟨some 85, .bin .add, [.t 83, .t 84], none⟩,
⟨some 86, .mv, [.t 16], none⟩,
⟨some 87, .call 52, [.t 85, .t 86], none⟩,
⟨some 88, .bslice 3 1 [.bool false, .int .i64 0, .str []] [0], [.t 87], none⟩,
⟨some 89, .append false 3 32, [.t 80, .t 88], none⟩,
⟨some 14, .mv, [.t 89], none⟩]))) (.reg [⟨some 90, .bin .add, [.t 75, .k (.c (.s (.int .i64 1)))], none⟩,
⟨some 75, .mv, [.t 90], none⟩]))))))) (.seq (.reg [⟨some 91, .mv, [.t 14], none⟩,
⟨some 92, .build [.bool false, .int .i64 0, .str []] [(0, 1)], [.k (.c (.s (.bool true)))], none⟩,
⟨some 93, .fadr 2, [.t 6], none⟩,
⟨some 94, .load 1 false, [.t 93], none⟩,
⟨some 95, .mv, [.t 10], none⟩,
⟨some 96, .call 52, [.t 94, .t 95], none⟩,
⟨some 97, .build [.bool false, .int .i64 0, .str []] [(0, 1)], [.k (.c (.s (.bool true)))], none⟩,
⟨some 98, .bslice 3 3 [.bool false, .int .i64 0, .str []] [0, 1, 2], [.t 92, .t 96, .t 97], none⟩,
⟨some 99, .append false 3 32, [.t 91, .t 98], none⟩,
⟨some 4, .mv, [.t 99], none⟩,
⟨some 5, .mv, [.k (.c (.s (.int .i64 0)))], none⟩]) (.ret))))))))))
noncomputable def G_log_Append : FuncId → Ab.Spec := addS (addS (addS (addS (noS) 16 (plain scanG)) 51 (plain sectorsG)) 43 (plain areaG)) 52 (plain writeG)
theorem G_log_Append_ok : ∀ f, Contract Try.prog f (G_log_Append f) := (addS_ok (addS_ok (addS_ok (addS_ok (noS_ok _) contract_log_Scan) contract_log_sectors) contract_log_area) contract_log_write)
theorem G20_16 : G_log_Append 16 = plain scanG := by simp [G_log_Append, addS]
theorem G20_51 : G_log_Append 51 = plain sectorsG := by simp [G_log_Append, addS]
theorem G20_43 : G_log_Append 43 = plain areaG := by simp [G_log_Append, addS]
theorem G20_52 : G_log_Append 52 = plain writeG := by simp [G_log_Append, addS]
set_option maxHeartbeats 16000000 in
set_option maxRecDepth 1000000 in
set_option linter.unusedSimpArgs false in
set_option linter.unusedVariables false in
theorem contract_log_Append : Contract Try.prog 20 (plain appendG) := by
  have hb : ∃ c, Try.f20.body = some c ∧ codeOk 100 c = true ∧ cCode Try.prog c = sc_log_Append := ⟨_, rfl, by kernel_rfl, by kernel_rfl⟩
  obtain ⟨c, hb1, hb2, hb3⟩ := hb
  refine contract_of (n := 2) G_log_Append_ok hB hD Try.func20 hb1 (by kernel_rfl) hb2 hb3 (rs := [.tmp 4, .tmp 5]) (by kernel_rfl) (by decide) ?_ ?_
  · intro args x h
    obtain ⟨y, hy, -⟩ := Option.map_eq_some_iff.1 h
    obtain ⟨⟨ss, cs, f, g, t⟩, rfl, -⟩ := specE_some hy
    rfl
  · intro args r hr
    obtain ⟨y, hy, rfl⟩ := Option.map_eq_some_iff.1 hr
    obtain ⟨⟨ss, cs, f, g, t⟩, rfl, hc, rfl⟩ := specE_some hy
    clear hr hy
    have hc : ss.length < 4000000 ∧ cs.length < 4000000 := hc
    change awp _ _ (postQ _ (.v (.tup [.inl (.s (.list 3 (encs opE (appendD ⟨ss, cs⟩ t).1) false)), .inl (.s (.int .i64 (appendD ⟨ss, cs⟩ t).2))]))) _
    unfold appendG_enc sc_log_Append
    obtain ⟨c1, c2⟩ := hc
    by_cases he : (scanD ⟨ss, cs⟩).2 = 0
    case neg =>
      have hap : appendD ⟨ss, cs⟩ t = ([], (scanD ⟨ss, cs⟩).2) := by unfold appendD; rw [if_pos he]
      rw [hap]
      simp (maxSteps := 4000000) only [↓exT_call G20_16, ↓exT_callo G20_16, ↓exT_calloG G20_16, ↓exT_call G20_51, ↓exT_callo G20_51, ↓exT_calloG G20_51, ↓exT_call G20_43, ↓exT_callo G20_43, ↓exT_calloG G20_43, ↓exT_call G20_52, ↓exT_callo G20_52, ↓exT_calloG G20_52, c1, c2, he, go_sem, Nat.reduceAdd, Nat.reduceSub, Nat.reduceMul, Nat.reduceEqDiff, Nat.reduceLeDiff, Nat.reduceLT, Nat.reduceBEq, Int.reduceLE, Int.reduceLT, Int.reduceToNat, Int.reduceNeg, Int.reduceAdd, Int.reduceSub, Int.reduceMul, ↓reduceIte]
    obtain ⟨k1, k2, k3, k4, k5, k6⟩ := scan_ok he
    simp only at k2
    by_cases hl : 1200 < t.length
    case pos =>
      have hap : appendD ⟨ss, cs⟩ t = ([], 5) := by unfold appendD; rw [if_neg (by simp [he]), if_pos hl]
      have hl' : 1200 < (t.length : Int) := by omega
      rw [hap]
      simp (maxSteps := 4000000) only [↓exT_call G20_16, ↓exT_callo G20_16, ↓exT_calloG G20_16, ↓exT_call G20_51, ↓exT_callo G20_51, ↓exT_calloG G20_51, ↓exT_call G20_43, ↓exT_callo G20_43, ↓exT_calloG G20_43, ↓exT_call G20_52, ↓exT_callo G20_52, ↓exT_calloG G20_52, c1, c2, he, hl', go_sem, Nat.reduceAdd, Nat.reduceSub, Nat.reduceMul, Nat.reduceEqDiff, Nat.reduceLeDiff, Nat.reduceLT, Nat.reduceBEq, Int.reduceLE, Int.reduceLT, Int.reduceToNat, Int.reduceNeg, Int.reduceAdd, Int.reduceSub, Int.reduceMul, ↓reduceIte]
    have hl' : ¬ 1200 < (t.length : Int) := by omega
    obtain ⟨q1, q2, q3, -, -⟩ := (right_iff _).1 k1
    simp only at q1 q2 q3
    have hap : appendD ⟨ss, cs⟩ t = if fromN ss.length (scanD ⟨ss, cs⟩).1.gen + halfN ss.length < (scanD ⟨ss, cs⟩).1.next + 1 + (bodyS (nextRec (scanD ⟨ss, cs⟩).1.recs t)).length ∨ (maxNum : Int) < lastNum (scanD ⟨ss, cs⟩).1.recs + 1 then ([], 10)
      else (appendOps (scanD ⟨ss, cs⟩).1.gen (scanD ⟨ss, cs⟩).1.next (nextRec (scanD ⟨ss, cs⟩).1.recs t), 0) := by
      unfold appendD; rw [if_neg (by simp [he]), if_neg hl]
    have hmn : maxNum = 2147483647 := rfl
    generalize hgg : (scanD ⟨ss, cs⟩).1.gen = G at *
    generalize hrr : (scanD ⟨ss, cs⟩).1.recs = rs at *
    generalize hnn : (scanD ⟨ss, cs⟩).1.next = nx at *
    have hff := from_fit (n := ss.length) (g := G) k2
    have hln := lastNum_le fun r hr => (k4 r hr).1
    have hnr : nextRec rs t = ⟨lastNum rs + 1, t⟩ := rfl
    have hbl : (bodyS (nextRec rs t)).length ≤ 39 := body_len_le (r := nextRec rs t) (by show t.length ≤ 1200; omega)
    rw [hnr] at hap hbl
    generalize hN : lastNum rs + 1 = N at *
    have hG1 : (G : Int) < 4294967296 := by omega
    have hN1 : 0 ≤ N ∧ N < 4294967296 := by omega
    have ht1 : t.length < 4000000 := by omega
    -- the number: of no records, of some
    have hnum : (rs = [] ∧ N = 1) ∨ (rs ≠ [] ∧ (rs.getD (rs.length - 1) default).num + 1 = N) := by
      by_cases h : rs = []
      · exact .inl ⟨h, by rw [← hN, h]; rfl⟩
      · exact .inr ⟨h, by rw [← hN, lastNum_ne h]⟩
    generalize hB : bodyS ⟨N, t⟩ = B at *
    generalize hH : headS G ⟨N, t⟩ = H at *
    have hfe : ∀ hif : ¬ (fromN ss.length G + halfN ss.length < nx + 1 + B.length ∨ (maxNum : Int) < N), appendD ⟨ss, cs⟩ t = (opsW (placed (nx + 1) B) ++ [opS, opW nx H, opS], 0) := fun hif => by
      rw [hap, if_neg hif]; unfold appendOps; rw [hB, hH]
    generalize appendD ⟨ss, cs⟩ t = AP at *
    generalize hFF : fromN ss.length G + halfN ss.length = F at *
    rcases hnum with ⟨h0, hN0⟩ | ⟨h0, hN0⟩
    · subst h0
      subst hN0
      have hz : ¬ (0 : Int) < ((0 : Nat) : Int) := by omega
      by_cases hx : F < nx + 1 + B.length
      case pos =>
        rw [if_pos (.inl hx)] at hap
        have hx' : (F : Int) < (nx : Int) + 1 + (B.length : Int) := by omega
        rw [hap]
        simp (maxSteps := 4000000) only [↓exT_call G20_16, ↓exT_callo G20_16, ↓exT_calloG G20_16, ↓exT_call G20_51, ↓exT_callo G20_51, ↓exT_calloG G20_51, ↓exT_call G20_43, ↓exT_callo G20_43, ↓exT_calloG G20_43, ↓exT_call G20_52, ↓exT_callo G20_52, ↓exT_calloG G20_52, c1, c2, he, hl', hgg, hrr, hnn, hG1, ht1, q1, q2, hB, hH, hFF, hz, hx', go_sem, Nat.reduceAdd, Nat.reduceSub, Nat.reduceMul, Nat.reduceEqDiff, Nat.reduceLeDiff, Nat.reduceLT, Nat.reduceBEq, Int.reduceLE, Int.reduceLT, Int.reduceToNat, Int.reduceNeg, Int.reduceAdd, Int.reduceSub, Int.reduceMul, ↓reduceIte]
        all_goals ((repeat' (first | with_reducible apply And.intro | intro)) <;> first | omega | (with_reducible rfl) | skip)
      have hx' : ¬ (F : Int) < (nx : Int) + 1 + (B.length : Int) := by omega
      rw [hfe (by omega)]
      simp (maxSteps := 4000000) only [↓exT_call G20_16, ↓exT_callo G20_16, ↓exT_calloG G20_16, ↓exT_call G20_51, ↓exT_callo G20_51, ↓exT_calloG G20_51, ↓exT_call G20_43, ↓exT_callo G20_43, ↓exT_calloG G20_43, ↓exT_call G20_52, ↓exT_callo G20_52, ↓exT_calloG G20_52, c1, c2, he, hl', hgg, hrr, hnn, hG1, ht1, q1, q2, hB, hH, hFF, hz, hx', go_sem, Nat.reduceAdd, Nat.reduceSub, Nat.reduceMul, Nat.reduceEqDiff, Nat.reduceLeDiff, Nat.reduceLT, Nat.reduceBEq, Int.reduceLE, Int.reduceLT, Int.reduceToNat, Int.reduceNeg, Int.reduceAdd, Int.reduceSub, Int.reduceMul, ↓reduceIte]
      all_goals ((repeat' (first | with_reducible apply And.intro | intro)) <;> first | omega | (with_reducible rfl) | skip)
      refine awp_loopM (α := Nat) (fun i => [(6, .c (.ptr 6 0)), (10, .c (.s (.str H))), (14, .c (.own 14 i)), (73, .c (.s (.list 1 (encs strE B) false))), (74, .c (.s (.int .i64 B.length))), (75, .c (.s (.int .i64 i)))])
        (fun i => [(6, .box [.s (.int .i64 G), .s (.list 2 [] false), .s (.int .i64 nx)]), (14, .row 3 (encs opE (opsW (placed (nx + 1) (B.take i)))))]) (fun i => B.length - i) 0 (fun i => i ≤ B.length) (Nat.zero_le _) (Weak.trans (Weak.nilSlot 14 14 3 rfl rfl) (Weak.meets ?_)) ?_
      · simp (maxSteps := 4000000) only [↓exT_call G20_16, ↓exT_callo G20_16, ↓exT_calloG G20_16, ↓exT_call G20_51, ↓exT_callo G20_51, ↓exT_calloG G20_51, ↓exT_call G20_43, ↓exT_callo G20_43, ↓exT_calloG G20_43, ↓exT_call G20_52, ↓exT_callo G20_52, ↓exT_calloG G20_52, go_sem, Nat.reduceAdd, Nat.reduceSub, Nat.reduceMul, Nat.reduceEqDiff, Nat.reduceLeDiff, Nat.reduceLT, Nat.reduceBEq, Int.reduceLE, Int.reduceLT, Int.reduceToNat, Int.reduceNeg, Int.reduceAdd, Int.reduceSub, Int.reduceMul, ↓reduceIte]
        simp [placed, opsW, encs]
      intro x hx
      have hpl : (encs opE (opsW (placed (nx + 1) (B.take x)))).length = x := by simp [encs, opsW, placed_len]; omega
      by_cases hxl : x < B.length
      · have hxi : (x : Int) < (B.length : Int) := by omega
        have ht := placed_take (a := nx + 1) hxl
        have ec : ((nx : Int) + 1 + (x : Int)) = ((nx + 1 + x : Nat) : Int) := by omega
        simp (maxSteps := 4000000) only [↓exT_call G20_16, ↓exT_callo G20_16, ↓exT_calloG G20_16, ↓exT_call G20_51, ↓exT_callo G20_51, ↓exT_calloG G20_51, ↓exT_call G20_43, ↓exT_callo G20_43, ↓exT_calloG G20_43, ↓exT_call G20_52, ↓exT_callo G20_52, ↓exT_calloG G20_52, hxi, hpl, ec, ops_one, go_sem, Nat.reduceAdd, Nat.reduceSub, Nat.reduceMul, Nat.reduceEqDiff, Nat.reduceLeDiff, Nat.reduceLT, Nat.reduceBEq, Int.reduceLE, Int.reduceLT, Int.reduceToNat, Int.reduceNeg, Int.reduceAdd, Int.reduceSub, Int.reduceMul, ↓reduceIte]
        have hpl2 : (encs opE (opsW (placed (nx + 1) (B.take (x + 1))))).length = x + 1 := by simp [encs, opsW, placed_len]; omega
        rw [← ht]
        exact ⟨by omega, by omega, by omega, by omega, x + 1, by omega, by omega, ⟨by rw [encs_len] at hpl2; exact hpl2, by omega⟩, rfl⟩
      · have hxi : ¬ (x : Int) < (B.length : Int) := by omega
        obtain rfl : x = B.length := by omega
        rw [List.take_length] at *
        simp (maxSteps := 4000000) only [↓exT_call G20_16, ↓exT_callo G20_16, ↓exT_calloG G20_16, ↓exT_call G20_51, ↓exT_callo G20_51, ↓exT_calloG G20_51, ↓exT_call G20_43, ↓exT_callo G20_43, ↓exT_calloG G20_43, ↓exT_call G20_52, ↓exT_callo G20_52, ↓exT_calloG G20_52, hxi, hpl, ops_three, go_sem, Nat.reduceAdd, Nat.reduceSub, Nat.reduceMul, Nat.reduceEqDiff, Nat.reduceLeDiff, Nat.reduceLT, Nat.reduceBEq, Int.reduceLE, Int.reduceLT, Int.reduceToNat, Int.reduceNeg, Int.reduceAdd, Int.reduceSub, Int.reduceMul, ↓reduceIte]
        all_goals ((repeat' (first | with_reducible apply And.intro | intro)) <;> first | omega | (with_reducible rfl) | skip)
    · have h0l : rs.length ≠ 0 := fun e => h0 (List.length_eq_zero_iff.1 e)
      have hz : (0 : Int) < (rs.length : Int) := by omega
      have hll := k4 _ (mem_getD (l := rs) (i := rs.length - 1) (by omega))
      have eix : ((rs.length : Int) - 1).toNat = rs.length - 1 := by omega
      have hge : (encs recE rs).getD (rs.length - 1) [] = recE (rs.getD (rs.length - 1) default) := encs_getN (by omega)
      have hix : (0 : Int) ≤ (rs.length : Int) - 1 ∧ (rs.length : Int) - 1 < (rs.length : Int) := by omega
      have hrl : rs.length ≤ 300 := by omega
      have hN2 := hN1.1
      have hN3 := hN1.2
      by_cases hx : F < nx + 1 + B.length
      case pos =>
        rw [if_pos (.inl hx)] at hap
        have hx' : (F : Int) < (nx : Int) + 1 + (B.length : Int) := by omega
        rw [hap]
        simp (maxSteps := 4000000) only [↓exT_call G20_16, ↓exT_callo G20_16, ↓exT_calloG G20_16, ↓exT_call G20_51, ↓exT_callo G20_51, ↓exT_calloG G20_51, ↓exT_call G20_43, ↓exT_callo G20_43, ↓exT_calloG G20_43, ↓exT_call G20_52, ↓exT_callo G20_52, ↓exT_calloG G20_52, c1, c2, he, hl', hgg, hrr, hnn, hG1, ht1, q1, q2, hB, hH, hFF, hz, hx', hix.1, hix.2, eix, hge, hN0, hN2, hN3, go_sem, Nat.reduceAdd, Nat.reduceSub, Nat.reduceMul, Nat.reduceEqDiff, Nat.reduceLeDiff, Nat.reduceLT, Nat.reduceBEq, Int.reduceLE, Int.reduceLT, Int.reduceToNat, Int.reduceNeg, Int.reduceAdd, Int.reduceSub, Int.reduceMul, ↓reduceIte]
        all_goals ((repeat' (first | with_reducible apply And.intro | intro)) <;> first | omega | (with_reducible rfl) | skip)
      have hx' : ¬ (F : Int) < (nx : Int) + 1 + (B.length : Int) := by omega
      by_cases hmx : (maxNum : Int) < N
      case pos =>
        rw [if_pos (.inr hmx)] at hap
        have hmx' : 2147483647 < N := by omega
        rw [hap]
        simp (maxSteps := 4000000) only [↓exT_call G20_16, ↓exT_callo G20_16, ↓exT_calloG G20_16, ↓exT_call G20_51, ↓exT_callo G20_51, ↓exT_calloG G20_51, ↓exT_call G20_43, ↓exT_callo G20_43, ↓exT_calloG G20_43, ↓exT_call G20_52, ↓exT_callo G20_52, ↓exT_calloG G20_52, c1, c2, he, hl', hgg, hrr, hnn, hG1, ht1, q1, q2, hB, hH, hFF, hz, hx', hix.1, hix.2, eix, hge, hN0, hN2, hN3, hmx', go_sem, Nat.reduceAdd, Nat.reduceSub, Nat.reduceMul, Nat.reduceEqDiff, Nat.reduceLeDiff, Nat.reduceLT, Nat.reduceBEq, Int.reduceLE, Int.reduceLT, Int.reduceToNat, Int.reduceNeg, Int.reduceAdd, Int.reduceSub, Int.reduceMul, ↓reduceIte]
        all_goals ((repeat' (first | with_reducible apply And.intro | intro)) <;> first | omega | (with_reducible rfl) | skip)
      have hmx' : ¬ 2147483647 < N := by omega
      rw [hfe (by omega)]
      simp (maxSteps := 4000000) only [↓exT_call G20_16, ↓exT_callo G20_16, ↓exT_calloG G20_16, ↓exT_call G20_51, ↓exT_callo G20_51, ↓exT_calloG G20_51, ↓exT_call G20_43, ↓exT_callo G20_43, ↓exT_calloG G20_43, ↓exT_call G20_52, ↓exT_callo G20_52, ↓exT_calloG G20_52, c1, c2, he, hl', hgg, hrr, hnn, hG1, ht1, q1, q2, hB, hH, hFF, hz, hx', hix.1, hix.2, eix, hge, hN0, hN2, hN3, hmx', go_sem, Nat.reduceAdd, Nat.reduceSub, Nat.reduceMul, Nat.reduceEqDiff, Nat.reduceLeDiff, Nat.reduceLT, Nat.reduceBEq, Int.reduceLE, Int.reduceLT, Int.reduceToNat, Int.reduceNeg, Int.reduceAdd, Int.reduceSub, Int.reduceMul, ↓reduceIte]
      all_goals ((repeat' (first | with_reducible apply And.intro | intro)) <;> first | omega | (with_reducible rfl) | skip)
      refine awp_loopM (α := Nat) (fun i => [(6, .c (.ptr 6 0)), (10, .c (.s (.str H))), (14, .c (.own 14 i)), (73, .c (.s (.list 1 (encs strE B) false))), (74, .c (.s (.int .i64 B.length))), (75, .c (.s (.int .i64 i)))])
        (fun i => [(6, .box [.s (.int .i64 G), .s (.list 2 (encs recE rs) false), .s (.int .i64 nx)]), (14, .row 3 (encs opE (opsW (placed (nx + 1) (B.take i)))))]) (fun i => B.length - i) 0 (fun i => i ≤ B.length) (Nat.zero_le _) (Weak.trans (Weak.nilSlot 14 14 3 rfl rfl) (Weak.meets ?_)) ?_
      · simp (maxSteps := 4000000) only [↓exT_call G20_16, ↓exT_callo G20_16, ↓exT_calloG G20_16, ↓exT_call G20_51, ↓exT_callo G20_51, ↓exT_calloG G20_51, ↓exT_call G20_43, ↓exT_callo G20_43, ↓exT_calloG G20_43, ↓exT_call G20_52, ↓exT_callo G20_52, ↓exT_calloG G20_52, go_sem, Nat.reduceAdd, Nat.reduceSub, Nat.reduceMul, Nat.reduceEqDiff, Nat.reduceLeDiff, Nat.reduceLT, Nat.reduceBEq, Int.reduceLE, Int.reduceLT, Int.reduceToNat, Int.reduceNeg, Int.reduceAdd, Int.reduceSub, Int.reduceMul, ↓reduceIte]
        simp [placed, opsW, encs]
      intro x hx
      have hpl : (encs opE (opsW (placed (nx + 1) (B.take x)))).length = x := by simp [encs, opsW, placed_len]; omega
      by_cases hxl : x < B.length
      · have hxi : (x : Int) < (B.length : Int) := by omega
        have ht := placed_take (a := nx + 1) hxl
        have ec : ((nx : Int) + 1 + (x : Int)) = ((nx + 1 + x : Nat) : Int) := by omega
        simp (maxSteps := 4000000) only [↓exT_call G20_16, ↓exT_callo G20_16, ↓exT_calloG G20_16, ↓exT_call G20_51, ↓exT_callo G20_51, ↓exT_calloG G20_51, ↓exT_call G20_43, ↓exT_callo G20_43, ↓exT_calloG G20_43, ↓exT_call G20_52, ↓exT_callo G20_52, ↓exT_calloG G20_52, hxi, hpl, ec, ops_one, go_sem, Nat.reduceAdd, Nat.reduceSub, Nat.reduceMul, Nat.reduceEqDiff, Nat.reduceLeDiff, Nat.reduceLT, Nat.reduceBEq, Int.reduceLE, Int.reduceLT, Int.reduceToNat, Int.reduceNeg, Int.reduceAdd, Int.reduceSub, Int.reduceMul, ↓reduceIte]
        have hpl2 : (encs opE (opsW (placed (nx + 1) (B.take (x + 1))))).length = x + 1 := by simp [encs, opsW, placed_len]; omega
        rw [← ht]
        exact ⟨by omega, by omega, by omega, by omega, x + 1, by omega, by omega, ⟨by rw [encs_len] at hpl2; exact hpl2, by omega⟩, rfl⟩
      · have hxi : ¬ (x : Int) < (B.length : Int) := by omega
        obtain rfl : x = B.length := by omega
        rw [List.take_length] at *
        simp (maxSteps := 4000000) only [↓exT_call G20_16, ↓exT_callo G20_16, ↓exT_calloG G20_16, ↓exT_call G20_51, ↓exT_callo G20_51, ↓exT_calloG G20_51, ↓exT_call G20_43, ↓exT_callo G20_43, ↓exT_calloG G20_43, ↓exT_call G20_52, ↓exT_callo G20_52, ↓exT_calloG G20_52, hxi, hpl, ops_three, go_sem, Nat.reduceAdd, Nat.reduceSub, Nat.reduceMul, Nat.reduceEqDiff, Nat.reduceLeDiff, Nat.reduceLT, Nat.reduceBEq, Int.reduceLE, Int.reduceLT, Int.reduceToNat, Int.reduceNeg, Int.reduceAdd, Int.reduceSub, Int.reduceMul, ↓reduceIte]
        all_goals ((repeat' (first | with_reducible apply And.intro | intro)) <;> first | omega | (with_reducible rfl) | skip)

end Go.Proofs.Ytniioedflegdkaa

/- The functions of package log, fifth part: a renewal. -/
namespace Go.Proofs.Ytniioedflegdkaa
open Go Go.Ab Go.Proofs Go.Fs
def soundG_enc : (List Rec) × (Nat) × (Bool) → List V := fun ⟨l, k, f⟩ => [.c (.s (.list k (encs recE l) f))]
theorem soundG_inj : ∀ x y, soundG_enc x = soundG_enc y → x = y := by
  rintro ⟨l, k, f⟩ ⟨l2, k2, f2⟩ h
  simp only [soundG_enc, List.cons.injEq, V.c.injEq, V.agg.injEq, C.s.injEq, S.list.injEq, S.str.injEq, S.int.injEq, S.bool.injEq, S.fn.injEq, S.cref.injEq, strE_inj, true_and, and_true, recE_inj] at h
  simp_all
noncomputable def soundG : List V → Option (V) := specE soundG_enc (fun ⟨l, k, f⟩ => (k = 2 ∨ l = []) ∧ l.length < 4000000) (fun ⟨l, k, f⟩ => .c (.s (.int .i64 (soundE l))))
theorem soundG_eq {l : List Rec} {k : Nat} {f : Bool} [Decidable ((k = 2 ∨ l = []) ∧ l.length < 4000000)] : soundG [.c (.s (.list k (encs recE l) f))] = if (k = 2 ∨ l = []) ∧ l.length < 4000000 then some (.c (.s (.int .i64 (soundE l)))) else none := specE_eq soundG_inj (l, k, f)
theorem soundG_call {l : List Rec} {k : Nat} {f : Bool} {gt : Bool} {K : V → Prop} : callE soundG [.c (.s (.list k (encs recE l) f))] gt K = ((gt = true → (k = 2 ∨ l = []) ∧ l.length < 4000000) ∧ bindV (ifV gt (.c (.s (.int .i64 (soundE l))))) K) := by
  have := Classical.propDecidable ((k = 2 ∨ l = []) ∧ l.length < 4000000)
  exact callE_of soundG_eq
theorem soundG_callo {l : List Rec} {k : Nat} {f : Bool} {m : Nat → Option Ab.Obj} {locs : List Nat} {K : V → (Nat → Option Ab.Obj) → Prop} : callO soundG (some [.c (.s (.list k (encs recE l) f))]) m locs K = (((k = 2 ∨ l = []) ∧ l.length < 4000000) ∧ K (.c (.s (.int .i64 (soundE l)))) (sealW m locs (.c (.s (.int .i64 (soundE l)))))) := by
  have := Classical.propDecidable ((k = 2 ∨ l = []) ∧ l.length < 4000000)
  exact callO_of soundG_eq
attribute [go_sem] soundG_call soundG_callo

def sc_log_sound : SC := .seq (.reg [⟨some 2, .mv, [.k (.c (.s (.int .i64 0)))], none⟩]) (.seq (.seq (.reg [⟨some 7, .mv, [.t 0], none⟩,
⟨some 8, .len false, [.t 7], none⟩,
⟨some 9, .bin .eql, [.t 8, .k (.c (.s (.int .i64 0)))], none⟩]) (.cond (.t 9) (.seq (.reg [⟨some 2, .mv, [.k (.c (.s (.int .i64 1)))], none⟩]) (.ret)) (.skip))) (.seq (.seq (.reg [⟨some 10, .mv, [.t 0], none⟩,
⟨some 11, .len false, [.t 10], none⟩,
⟨some 12, .mv, [.k (.c (.s (.int .i64 0)))], none⟩]) (.block 0 (.loop (.seq (.reg [⟨some 13, .bin .lss, [.t 12, .t 11], none⟩]) (.seq (.cond (.t 13) (.skip) (.exit 0)) (.seq (.block 1 (.seq (.reg [⟨some 14, .mv, [.t 12], none⟩,
⟨some 15, .iadr 2, [.t 10, .t 12], none⟩,
⟨some 16, .load 2 true, [.t 15], none⟩,
⟨some 4, .alloc [.int .i64 0, .str []], [], none⟩,
⟨some 3, .mv, [.t 14], none⟩,
⟨none, .store 2 true, [.t 4, .t 16], none⟩]) (.seq (.regD [⟨some 17, .fadr 0, [.t 4], none⟩,
⟨some 18, .load 1 false, [.t 17], none⟩,
⟨some 19, .bin .lss, [.t 18, .k (.c (.s (.int .i64 1)))], none⟩,
⟨some 20, .mv, [.t 19], none⟩,
⟨some 21, .fadr 0, [.t 4], some (20, false)⟩,
⟨some 22, .load 1 false, [.t 21], some (20, false)⟩,
⟨some 23, .bin .gtr, [.t 22, .k (.c (.s (.int .i64 2147483647)))], some (20, false)⟩,
⟨some 24, .pick, [.t 20, .k (.c (.s (.bool true))), .t 23], none⟩,
⟨some 25, .mv, [.t 24], none⟩,
⟨some 26, .mv, [.t 3], some (25, false)⟩,
⟨some 27, .bin .gtr, [.t 26, .k (.c (.s (.int .i64 0)))], some (25, false)⟩,
⟨some 28, .mv, [.t 27], some (25, false)⟩,
⟨some 29, .fadr 0, [.t 4], some (28, true)⟩,
⟨some 30, .load 1 false, [.t 29], some (28, true)⟩,
⟨some 31, .mv, [.t 0], some (28, true)⟩,
⟨some 32, .mv, [.t 3], some (28, true)⟩,
⟨some 33, .bin .sub, [.t 32, .k (.c (.s (.int .i64 1)))], some (28, true)⟩,
⟨some 34, .iadr 2, [.t 31, .t 33], some (28, true)⟩,
⟨some 35, .fadr 0, [.t 34], some (28, true)⟩,
⟨some 36, .load 1 false, [.t 35], some (28, true)⟩,
⟨some 37, .bin .add, [.t 36, .k (.c (.s (.int .i64 1)))], some (28, true)⟩,
⟨some 38, .bin .neq, [.t 30, .t 37], some (28, true)⟩,
⟨some 39, .pick, [.t 28, .t 38, .k (.c (.s (.bool false)))], some (25, false)⟩,
⟨some 40, .pick, [.t 25, .k (.c (.s (.bool true))), .t 39], none⟩] []) (.cond (.t 40) (.seq (.reg [⟨some 2, .mv, [.k (.c (.s (.int .i64 1)))], none⟩]) (.ret)) (.skip))))) (.reg [⟨some 41, .bin .add, [.t 12, .k (.c (.s (.int .i64 1)))], none⟩,
⟨some 12, .mv, [.t 41], none⟩]))))))) (.seq (.seq (.reg [⟨some 42, .mv, [.t 0], none⟩,
⟨some 43, .len false, [.t 42], none⟩,
⟨some 44, .mv, [.k (.c (.s (.int .i64 0)))], none⟩]) (.block 2 (.loop (.seq (.reg [⟨some 45, .bin .lss, [.t 44, .t 43], none⟩]) (.seq (.cond (.t 45) (.skip) (.exit 2)) (.seq (.block 3 (.seq (.reg [⟨some 46, .iadr 2, [.t 42, .t 44], none⟩,
⟨some 47, .load 2 true, [.t 46], none⟩,
⟨some 6, .alloc [.int .i64 0, .str []], [], none⟩,
⟨none, .store 2 true, [.t 6, .t 47], none⟩]) (.seq (.reg [⟨some 48, .fadr 1, [.t 6], none⟩,
⟨some 49, .load 1 false, [.t 48], none⟩,
⟨some 50, .len true, [.t 49], none⟩,
⟨some 51, .bin .gtr, [.t 50, .k (.c (.s (.int .i64 1200)))], none⟩]) (.cond (.t 51) (.seq (.reg [⟨some 2, .mv, [.k (.c (.s (.int .i64 5)))], none⟩]) (.ret)) (.skip))))) (.reg [⟨some 52, .bin .add, [.t 44, .k (.c (.s (.int .i64 1)))], none⟩,
⟨some 44, .mv, [.t 52], none⟩]))))))) (.seq (.reg [⟨some 2, .mv, [.k (.c (.s (.int .i64 0)))], none⟩]) (.ret)))))
noncomputable def G_log_sound : FuncId → Ab.Spec := noS
theorem G_log_sound_ok : ∀ f, Contract Try.prog f (G_log_sound f) := (noS_ok _)
set_option maxHeartbeats 16000000 in
set_option maxRecDepth 1000000 in
set_option linter.unusedSimpArgs false in
set_option linter.unusedVariables false in
theorem contract_log_sound : Contract Try.prog 55 (plain soundG) := by
  have hb : ∃ c, Try.f55.body = some c ∧ codeOk 53 c = true ∧ cCode Try.prog c = sc_log_sound := ⟨_, rfl, by kernel_rfl, by kernel_rfl⟩
  obtain ⟨c, hb1, hb2, hb3⟩ := hb
  refine contract_of (n := 1) G_log_sound_ok hB hD Try.func55 hb1 (by kernel_rfl) hb2 hb3 (rs := [.tmp 2]) (by kernel_rfl) (by decide) ?_ ?_
  · intro args x h
    obtain ⟨y, hy, -⟩ := Option.map_eq_some_iff.1 h
    obtain ⟨⟨l, k, f⟩, rfl, -⟩ := specE_some hy
    rfl
  · intro args r hr
    obtain ⟨y, hy, rfl⟩ := Option.map_eq_some_iff.1 hr
    obtain ⟨⟨l, k, f⟩, rfl, hc, rfl⟩ := specE_some hy
    clear hr hy
    have hc : (k = 2 ∨ l = []) ∧ l.length < 4000000 := hc
    change awp _ _ (postQ _ (.v (.c (.s (.int .i64 (soundE l)))))) _
    unfold soundG_enc sc_log_sound
    obtain ⟨hk, hc⟩ := hc
    by_cases h0 : l = []
    case pos =>
      have he : soundE l = 1 := by unfold soundE; rw [if_pos (.inl h0)]
      subst h0
      have hz : ((0 : Nat) : Int) = 0 := rfl
      simp +contextual (maxSteps := 4000000) only [he, hz, go_sem, Nat.reduceAdd, Nat.reduceSub, Nat.reduceMul, Nat.reduceEqDiff, Nat.reduceLeDiff, Nat.reduceLT, Nat.reduceBEq, Int.reduceLE, Int.reduceLT, Int.reduceToNat, Int.reduceNeg, Int.reduceAdd, Int.reduceSub, Int.reduceMul, ↓reduceIte]
    obtain rfl := hk.resolve_right h0
    have hl0 : l.length ≠ 0 := fun e => h0 (List.length_eq_zero_iff.1 e)
    have hl0' : ¬ (l.length : Int) = 0 := by omega
    have hmn : maxNum = 2147483647 := rfl
    simp (maxSteps := 4000000) only [hl0', go_sem, Nat.reduceAdd, Nat.reduceSub, Nat.reduceMul, Nat.reduceEqDiff, Nat.reduceLeDiff, Nat.reduceLT, Nat.reduceBEq, Int.reduceLE, Int.reduceLT, Int.reduceToNat, Int.reduceNeg, Int.reduceAdd, Int.reduceSub, Int.reduceMul, ↓reduceIte]
    refine awp_loopM (α := Nat) (fun i => [(0, .c (.s (.list 2 (encs recE l) f))), (10, .c (.s (.list 2 (encs recE l) f))), (11, .c (.s (.int .i64 l.length))), (12, .c (.s (.int .i64 i)))]) (fun _ => []) (fun i => l.length - i) 0 (fun i => i ≤ l.length ∧ chainB none (l.take i) = true) ⟨Nat.zero_le _, by simp [chainB]⟩ (Weak.meets ?_) ?_
    · simp +contextual (maxSteps := 4000000) only [go_sem, Nat.reduceAdd, Nat.reduceSub, Nat.reduceMul, Nat.reduceEqDiff, Nat.reduceLeDiff, Nat.reduceLT, Nat.reduceBEq, Int.reduceLE, Int.reduceLT, Int.reduceToNat, Int.reduceNeg, Int.reduceAdd, Int.reduceSub, Int.reduceMul, ↓reduceIte]
      simp
    rintro x ⟨hx, hw⟩
    by_cases hxl : x < l.length
    case pos =>
      have hxi : (x : Int) < (l.length : Int) := by omega
      have hat := chain_at hxl
      rw [hw, Bool.true_and] at hat
      generalize hnm : (l.getD x default).num = nm at *
      have hbad : chainB none (l.take (x + 1)) = false → soundE l = 1 := fun h => by unfold soundE; rw [if_pos (.inr (chain_bad h))]
      by_cases h1 : nm < 1
      case pos =>
        have he := hbad (by rw [hat, decide_eq_false (by omega : ¬ 1 ≤ nm)]; rfl)
        simp (maxSteps := 4000000) only [hxi, hnm, h1, he, go_sem, Nat.reduceAdd, Nat.reduceSub, Nat.reduceMul, Nat.reduceEqDiff, Nat.reduceLeDiff, Nat.reduceLT, Nat.reduceBEq, Int.reduceLE, Int.reduceLT, Int.reduceToNat, Int.reduceNeg, Int.reduceAdd, Int.reduceSub, Int.reduceMul, ↓reduceIte]
      by_cases h2 : 2147483647 < nm
      case pos =>
        have he := hbad (by rw [hat, decide_eq_false (by omega : ¬ nm ≤ maxNum), Bool.and_false]; rfl)
        simp (maxSteps := 4000000) only [hxi, hnm, h1, h2, he, go_sem, Nat.reduceAdd, Nat.reduceSub, Nat.reduceMul, Nat.reduceEqDiff, Nat.reduceLeDiff, Nat.reduceLT, Nat.reduceBEq, Int.reduceLE, Int.reduceLT, Int.reduceToNat, Int.reduceNeg, Int.reduceAdd, Int.reduceSub, Int.reduceMul, ↓reduceIte]
      have hb : (decide (1 ≤ nm) && decide (nm ≤ maxNum)) = true := by rw [decide_eq_true (by omega : 1 ≤ nm), decide_eq_true (by omega : nm ≤ maxNum)]; rfl
      rw [hb, Bool.true_and] at hat
      cases x with
      | zero =>
        have hf : chainB none (l.take (0 + 1)) = true := by rw [hat]; rfl
        have hz : ¬ (0 : Int) < ((0 : Nat) : Int) := by omega
        simp (maxSteps := 4000000) only [hxi, hnm, h1, h2, hz, go_sem, Nat.reduceAdd, Nat.reduceSub, Nat.reduceMul, Nat.reduceEqDiff, Nat.reduceLeDiff, Nat.reduceLT, Nat.reduceBEq, Int.reduceLE, Int.reduceLT, Int.reduceToNat, Int.reduceNeg, Int.reduceAdd, Int.reduceSub, Int.reduceMul, ↓reduceIte]
        exact ⟨by omega, 1, ⟨by omega, hf⟩, by omega, by omega⟩
      | succ y =>
        have hyl : y < l.length := by omega
        rw [lastOr_take hyl] at hat
        have hz : (0 : Int) < ((y + 1 : Nat) : Int) := by omega
        have hfe : follows (some (l.getD y default).num) (l.getD (y + 1) default) = decide (nm = (l.getD y default).num + 1) := by rw [← hnm]; rfl
        rw [hfe] at hat
        have e1 : (((y + 1 : Nat) : Int) - 1) = (y : Int) := by omega
        have hyi : (y : Int) < (l.length : Int) := by omega
        have hwl := chain_mem hw (l.getD y default) (by rw [take_getD hyl]; simp)
        by_cases h3 : nm = (l.getD y default).num + 1
        · have hf : chainB none (l.take (y + 1 + 1)) = true := by rw [hat]; exact decide_eq_true h3
          have h3' : (decide (nm = (l.getD y default).num + 1)) = true := decide_eq_true h3
          simp (maxSteps := 4000000) only [hxi, hnm, h1, h2, hz, e1, hyi, h3', go_sem, Nat.reduceAdd, Nat.reduceSub, Nat.reduceMul, Nat.reduceEqDiff, Nat.reduceLeDiff, Nat.reduceLT, Nat.reduceBEq, Int.reduceLE, Int.reduceLT, Int.reduceToNat, Int.reduceNeg, Int.reduceAdd, Int.reduceSub, Int.reduceMul, ↓reduceIte]
          exact ⟨by omega, by omega, by omega, y + 2, ⟨by omega, hf⟩, by omega, by omega⟩
        · have he := hbad (by rw [hat]; exact decide_eq_false h3)
          simp (maxSteps := 4000000) only [hxi, hnm, h1, h2, hz, e1, hyi, h3, he, go_sem, Nat.reduceAdd, Nat.reduceSub, Nat.reduceMul, Nat.reduceEqDiff, Nat.reduceLeDiff, Nat.reduceLT, Nat.reduceBEq, Int.reduceLE, Int.reduceLT, Int.reduceToNat, Int.reduceNeg, Int.reduceAdd, Int.reduceSub, Int.reduceMul, ↓reduceIte]
          all_goals ((repeat' (first | with_reducible apply And.intro | intro)) <;> first | omega | (with_reducible rfl) | skip)
    have hxi : ¬ (x : Int) < (l.length : Int) := by omega
    obtain rfl : x = l.length := by omega
    rw [List.take_length] at hw
    have hs : soundE l = if l.any (fun r => decide (1200 < r.text.length)) = true then 5 else 0 := by unfold soundE; rw [if_neg (by simp [h0, hw])]
    simp (maxSteps := 4000000) only [hxi, go_sem, Nat.reduceAdd, Nat.reduceSub, Nat.reduceMul, Nat.reduceEqDiff, Nat.reduceLeDiff, Nat.reduceLT, Nat.reduceBEq, Int.reduceLE, Int.reduceLT, Int.reduceToNat, Int.reduceNeg, Int.reduceAdd, Int.reduceSub, Int.reduceMul, ↓reduceIte]
    refine awp_loopM (α := Nat) (fun i => [(42, .c (.s (.list 2 (encs recE l) f))), (43, .c (.s (.int .i64 l.length))), (44, .c (.s (.int .i64 i)))]) (fun _ => []) (fun i => l.length - i) 0 (fun i => i ≤ l.length ∧ ∀ r ∈ l.take i, r.text.length ≤ 1200) ⟨Nat.zero_le _, by simp⟩ (Weak.meets ?_) ?_
    · simp +contextual (maxSteps := 4000000) only [go_sem, Nat.reduceAdd, Nat.reduceSub, Nat.reduceMul, Nat.reduceEqDiff, Nat.reduceLeDiff, Nat.reduceLT, Nat.reduceBEq, Int.reduceLE, Int.reduceLT, Int.reduceToNat, Int.reduceNeg, Int.reduceAdd, Int.reduceSub, Int.reduceMul, ↓reduceIte]
      simp
    rintro y ⟨hy, hv⟩
    by_cases hyl : y < l.length
    · have hyi : (y : Int) < (l.length : Int) := by omega
      by_cases h6 : (l.getD y default).text.length ≤ 1200
      · have h6' : ¬ 1200 < (((l.getD y default).text.length : Nat) : Int) := by omega
        simp (maxSteps := 4000000) only [hyi, h6', go_sem, Nat.reduceAdd, Nat.reduceSub, Nat.reduceMul, Nat.reduceEqDiff, Nat.reduceLeDiff, Nat.reduceLT, Nat.reduceBEq, Int.reduceLE, Int.reduceLT, Int.reduceToNat, Int.reduceNeg, Int.reduceAdd, Int.reduceSub, Int.reduceMul, ↓reduceIte]
        exact ⟨by omega, y + 1, ⟨by omega, take_all hyl hv h6⟩, by omega, by omega⟩
      · have h6' : 1200 < (((l.getD y default).text.length : Nat) : Int) := by omega
        have he : soundE l = 5 := by rw [hs, if_pos (List.any_eq_true.2 ⟨_, mem_getD hyl, by simp only [decide_eq_true_eq]; omega⟩)]
        simp (maxSteps := 4000000) only [hyi, h6', he, go_sem, Nat.reduceAdd, Nat.reduceSub, Nat.reduceMul, Nat.reduceEqDiff, Nat.reduceLeDiff, Nat.reduceLT, Nat.reduceBEq, Int.reduceLE, Int.reduceLT, Int.reduceToNat, Int.reduceNeg, Int.reduceAdd, Int.reduceSub, Int.reduceMul, ↓reduceIte]
    · have hyi : ¬ (y : Int) < (l.length : Int) := by omega
      obtain rfl : y = l.length := by omega
      rw [List.take_length] at hv
      have he : soundE l = 0 := by
        rw [hs, if_neg]
        simp only [List.any_eq_true, decide_eq_true_eq, not_exists, not_and]
        intro r hr; have := hv r hr; omega
      simp (maxSteps := 4000000) only [hyi, he, go_sem, Nat.reduceAdd, Nat.reduceSub, Nat.reduceMul, Nat.reduceEqDiff, Nat.reduceLeDiff, Nat.reduceLT, Nat.reduceBEq, Int.reduceLE, Int.reduceLT, Int.reduceToNat, Int.reduceNeg, Int.reduceAdd, Int.reduceSub, Int.reduceMul, ↓reduceIte]

def renewG_enc : (List Bs) × (List Wr) × (Bool) × (Bool) × (List Rec) × (Nat) × (Bool) → List V := fun ⟨ss, cs, f, g, l, k, h⟩ => [.agg [.s (.list 1 (encs strE ss) f), .s (.list 2 (encs wrE cs) g)], .c (.s (.list k (encs recE l) h))]
theorem renewG_inj : ∀ x y, renewG_enc x = renewG_enc y → x = y := by
  rintro ⟨ss, cs, f, g, l, k, h⟩ ⟨ss2, cs2, f2, g2, l2, k2, h2⟩ h
  simp only [renewG_enc, List.cons.injEq, V.c.injEq, V.agg.injEq, C.s.injEq, S.list.injEq, S.str.injEq, S.int.injEq, S.bool.injEq, S.fn.injEq, S.cref.injEq, strE_inj, true_and, and_true, wrE_inj, recE_inj] at h
  simp_all
noncomputable def renewG : List V → Option (V) := specE renewG_enc (fun ⟨ss, cs, f, g, l, k, h⟩ => ((k = 2 ∨ l = []) ∧ l.length < 4000000) ∧ ss.length < 4000000 ∧ cs.length < 4000000) (fun ⟨ss, cs, f, g, l, k, h⟩ => .tup [.inl (.s (.list 3 (encs opE (renewD ⟨ss, cs⟩ l).1) false)), .inl (.s (.int .i64 (renewD ⟨ss, cs⟩ l).2))])
theorem renewG_eq {ss : List Bs} {cs : List Wr} {f : Bool} {g : Bool} {l : List Rec} {k : Nat} {h : Bool} [Decidable (((k = 2 ∨ l = []) ∧ l.length < 4000000) ∧ ss.length < 4000000 ∧ cs.length < 4000000)] : renewG [.agg [.s (.list 1 (encs strE ss) f), .s (.list 2 (encs wrE cs) g)], .c (.s (.list k (encs recE l) h))] = if ((k = 2 ∨ l = []) ∧ l.length < 4000000) ∧ ss.length < 4000000 ∧ cs.length < 4000000 then some (.tup [.inl (.s (.list 3 (encs opE (renewD ⟨ss, cs⟩ l).1) false)), .inl (.s (.int .i64 (renewD ⟨ss, cs⟩ l).2))]) else none := specE_eq renewG_inj (ss, cs, f, g, l, k, h)
theorem renewG_call {ss : List Bs} {cs : List Wr} {f : Bool} {g : Bool} {l : List Rec} {k : Nat} {h : Bool} {gt : Bool} {K : V → Prop} : callE renewG [.agg [.s (.list 1 (encs strE ss) f), .s (.list 2 (encs wrE cs) g)], .c (.s (.list k (encs recE l) h))] gt K = ((gt = true → ((k = 2 ∨ l = []) ∧ l.length < 4000000) ∧ ss.length < 4000000 ∧ cs.length < 4000000) ∧ bindV (ifV gt (.tup [.inl (.s (.list 3 (encs opE (renewD ⟨ss, cs⟩ l).1) false)), .inl (.s (.int .i64 (renewD ⟨ss, cs⟩ l).2))])) K) := by
  have := Classical.propDecidable (((k = 2 ∨ l = []) ∧ l.length < 4000000) ∧ ss.length < 4000000 ∧ cs.length < 4000000)
  exact callE_of renewG_eq
theorem renewG_callo {ss : List Bs} {cs : List Wr} {f : Bool} {g : Bool} {l : List Rec} {k : Nat} {h : Bool} {m : Nat → Option Ab.Obj} {locs : List Nat} {K : V → (Nat → Option Ab.Obj) → Prop} : callO renewG (some [.agg [.s (.list 1 (encs strE ss) f), .s (.list 2 (encs wrE cs) g)], .c (.s (.list k (encs recE l) h))]) m locs K = ((((k = 2 ∨ l = []) ∧ l.length < 4000000) ∧ ss.length < 4000000 ∧ cs.length < 4000000) ∧ K (.tup [.inl (.s (.list 3 (encs opE (renewD ⟨ss, cs⟩ l).1) false)), .inl (.s (.int .i64 (renewD ⟨ss, cs⟩ l).2))]) (sealW m locs (.tup [.inl (.s (.list 3 (encs opE (renewD ⟨ss, cs⟩ l).1) false)), .inl (.s (.int .i64 (renewD ⟨ss, cs⟩ l).2))]))) := by
  have := Classical.propDecidable (((k = 2 ∨ l = []) ∧ l.length < 4000000) ∧ ss.length < 4000000 ∧ cs.length < 4000000)
  exact callO_of renewG_eq
attribute [go_sem] renewG_call renewG_callo

theorem str_two {l m : List Bs} {t : Bs} : encs strE l ++ [[.str t]] ++ encs strE m = encs strE (l ++ t :: m) := by
  rw [encs_append, List.append_assoc]; rfl
def sc_log_Renew : SC := .seq (.reg [⟨some 2, .box 2, [.t 0], none⟩,
⟨some 4, .mv, [.k (.c (.s (.list 0 [] true)))], none⟩,
⟨some 5, .mv, [.k (.c (.s (.int .i64 0)))], none⟩]) (.seq (.reg [⟨some 21, .load 2 true, [.t 2], none⟩,
⟨some 22, .call 16, [.t 21], none⟩,
⟨some 20, .mv, [.t 22], none⟩,
⟨some 23, .ext 0, [.t 20], none⟩,
⟨some 24, .ext 1, [.t 20], none⟩,
⟨some 6, .alloc [.int .i64 0, .list 0 [] true, .int .i64 0], [], none⟩,
⟨none, .store 3 true, [.t 6, .t 23], none⟩,
⟨some 7, .mv, [.t 24], none⟩]) (.seq (.seq (.reg [⟨some 25, .mv, [.t 7], none⟩,
⟨some 26, .bin .neq, [.t 25, .k (.c (.s (.int .i64 0)))], none⟩]) (.cond (.t 26) (.seq (.reg [⟨some 27, .mv, [.t 7], none⟩,
⟨some 4, .mv, [.k (.c (.s (.list 0 [] true)))], none⟩,
⟨some 5, .mv, [.t 27], none⟩]) (.ret)) (.skip))) (.seq (.seq (.reg [⟨some 28, .mv, [.t 1], none⟩,
⟨some 29, .call 55, [.t 28], none⟩,
⟨some 8, .mv, [.t 29], none⟩]) (.seq (.reg [⟨some 30, .mv, [.t 8], none⟩,
⟨some 31, .bin .neq, [.t 30, .k (.c (.s (.int .i64 0)))], none⟩]) (.cond (.t 31) (.seq (.reg [⟨some 32, .mv, [.t 8], none⟩,
⟨some 4, .mv, [.k (.c (.s (.list 0 [] true)))], none⟩,
⟨some 5, .mv, [.t 32], none⟩]) (.ret)) (.skip)))) (.seq (.reg [⟨some 33, .fadr 0, [.t 6], none⟩,
⟨some 34, .load 1 false, [.t 33], none⟩,
⟨some 35, .bin .add, [.t 34, .k (.c (.s (.int .i64 1)))], none⟩,
⟨some 9, .mv, [.t 35], none⟩]) (.seq (.reg [⟨some 37, .load 2 true, [.t 2], none⟩,
⟨some 38, .mv, [.t 9], none⟩,
⟨some 39, .call 43, [.t 37, .t 38], none⟩,
⟨some 36, .mv, [.t 39], none⟩,
⟨some 40, .ext 0, [.t 36], none⟩,
⟨some 41, .ext 1, [.t 36], none⟩,
⟨some 10, .mv, [.t 40], none⟩,
⟨some 11, .mv, [.t 41], none⟩]) (.seq (.reg [⟨some 12, .mv, [.k (.c (.s (.list 0 [] true)))], none⟩]) (.seq (.seq (.reg [⟨some 42, .mv, [.t 1], none⟩,
⟨some 43, .len false, [.t 42], none⟩,
⟨some 44, .mv, [.k (.c (.s (.int .i64 0)))], none⟩]) (.block 0 (.loop (.seq (.reg [⟨some 45, .bin .lss, [.t 44, .t 43], none⟩]) (.seq (.cond (.t 45) (.skip) (.exit 0)) (.seq (.block 1 (.seq (.reg [⟨some 46, .iadr 2, [.t 42, .t 44], none⟩,
⟨some 47, .load 2 true, [.t 46], none⟩,
⟨some 14, .alloc [.int .i64 0, .str []], [], none⟩,
⟨none, .store 2 true, [.t 14, .t 47], none⟩]) (.seq (.reg [⟨some 49, .mv, [.t 9], none⟩,
⟨some 50, .load 2 true, [.t 14], none⟩,
⟨some 51, .call 51, [.t 49, .t 50], none⟩,
⟨some 48, .mv, [.t 51], none⟩,
⟨some 52, .ext 0, [.t 48], none⟩,
⟨some 53, .ext 1, [.t 48], none⟩,
⟨some 15, .mv, [.t 52], none⟩,
⟨some 16, .mv, [.t 53], none⟩]) (.reg [⟨some 54, .mv, [.t 12], none⟩,
⟨some 55, .mv, [.t 15], none⟩,
⟨some 56, .bslice 1 1 [.str []] [0], [.t 55], none⟩,
⟨some 57, .append false 1 16, [.t 54, .t 56], none⟩,
⟨some 58, .mv, [.t 16], none⟩,
⟨some 59, .append false 1 16, [.t 57, .t 58], none⟩,
⟨some 12, .mv, [.t 59], none⟩])))) (.reg [⟨some 60, .bin .add, [.t 44, .k (.c (.s (.int .i64 1)))], none⟩,
⟨some 44, .mv, [.t 60], none⟩]))))))) (.seq (.seq (.reg [⟨some 61, .mv, [.t 10], none⟩,
⟨some 62, .mv, [.t 12], none⟩,
⟨some 63, .len false, [.t 62], none⟩,
⟨some 64, .bin .add, [.t 61, .t 63], none⟩,
⟨some 65, .mv, [.t 11], none⟩,
⟨some 66, .bin .gtr, [.t 64, .t 65], none⟩,
⟨some 67, .mv, [.t 66], none⟩,
⟨some 68, .mv, [.t 9], some (67, false)⟩,
⟨some 69, .bin .gtr, [.t 68, .k (.c (.s (.int .i64 2147483647)))], some (67, false)⟩,
⟨some 70, .pick, [.t 67, .k (.c (.s (.bool true))), .t 69], none⟩]) (.cond (.t 70) (.seq (.reg [⟨some 4, .mv, [.k (.c (.s (.list 0 [] true)))], none⟩,
⟨some 5, .mv, [.k (.c (.s (.int .i64 10)))], none⟩]) (.ret)) (.skip))) (.seq (.reg [⟨some 17, .mv, [.k (.c (.s (.list 0 [] true)))], none⟩]) (.seq (.seq (.reg [⟨some 71, .mv, [.t 12], none⟩,
⟨some 72, .len false, [.t 71], none⟩,
⟨some 73, .mv, [.k (.c (.s (.int .i64 0)))], none⟩]) (.block 2 (.loop (.seq (.reg [⟨some 74, .bin .lss, [.t 73, .t 72], none⟩]) (.seq (.cond (.t 74) (.skip) (.exit 2)) (.seq (.block 3 (.seq (.reg [⟨some 75, .mv, [.t 73], none⟩,
⟨some 76, .iadr 1, [.t 71, .t 73], none⟩,
⟨some 77, .load 1 false, [.t 76], none⟩,
⟨some 18, .mv, [.t 75], none⟩,
⟨some 19, .mv, [.t 77], none⟩]) (.reg [⟨some 78, .mv, [.t 17], none⟩,
⟨some 79, .mv, [.t 10], none⟩,
⟨some 80, .mv, [.t 18], none⟩,
⟨some 81, .bin .add, [.t 79, .t 80], none⟩,
⟨some 82, .mv, [.t 19], none⟩,
⟨some 83, .call 52, [.t 81, .t 82], none⟩,
⟨some 84, .bslice 3 1 [.bool false, .int .i64 0, .str []] [0], [.t 83], none⟩,
⟨some 85, .append false 3 32, [.t 78, .t 84], none⟩,
⟨some 17, .mv, [.t 85], none⟩]))) (.reg [⟨some 86, .bin .add, [.t 73, .k (.c (.s (.int .i64 1)))], none⟩,
⟨some 73, .mv, [.t 86], none⟩]))))))) (.seq (.seq (.reg [⟨some 87, .mv, [.t 10], none⟩,
⟨some 88, .mv, [.t 12], none⟩,
⟨some 89, .len false, [.t 88], none⟩,
⟨some 90, .bin .add, [.t 87, .t 89], none⟩,
⟨some 91, .mv, [.t 11], none⟩,
⟨some 92, .bin .lss, [.t 90, .t 91], none⟩]) (.cond (.t 92) (.reg [⟨some 93, .mv, [.t 17], none⟩,
⟨some 94, .mv, [.t 10], none⟩,
⟨some 95, .mv, [.t 12], none⟩,
⟨some 96, .len false, [.t 95], none⟩,
⟨some 97, .bin .add, [.t 94, .t 96], none⟩,
⟨some 98, .call 56, [.k (.c (.s (.str [])))], none⟩,
⟨some 99, .call 52, [.t 97, .t 98], none⟩,
⟨some 100, .bslice 3 1 [.bool false, .int .i64 0, .str []] [0], [.t 99], none⟩,
⟨some 101, .append false 3 32, [.t 93, .t 100], none⟩,
⟨some 17, .mv, [.t 101], none⟩]) (.skip))) (.seq (.reg [⟨some 102, .mv, [.t 17], none⟩,
⟨some 103, .build [.bool false, .int .i64 0, .str []] [(0, 1)], [.k (.c (.s (.bool true)))], none⟩,
⟨some 104, .mv, [.t 9], none⟩,
⟨some 105, .call 42, [.t 104], none⟩,
⟨some 106, .call 52, [.k (.c (.s (.int .i64 0))), .t 105], none⟩,
⟨some 107, .build [.bool false, .int .i64 0, .str []] [(0, 1)], [.k (.c (.s (.bool true)))], none⟩,
⟨some 108, .bslice 3 3 [.bool false, .int .i64 0, .str []] [0, 1, 2], [.t 103, .t 106, .t 107], none⟩,
⟨some 109, .append false 3 32, [.t 102, .t 108], none⟩,
⟨some 4, .mv, [.t 109], none⟩,
⟨some 5, .mv, [.k (.c (.s (.int .i64 0)))], none⟩]) (.ret)))))))))))))
noncomputable def G_log_Renew : FuncId → Ab.Spec := addS (addS (addS (addS (addS (addS (addS (noS) 16 (plain scanG)) 55 (plain soundG)) 43 (plain areaG)) 51 (plain sectorsG)) 52 (plain writeG)) 56 (plain sectorG)) 42 (plain markG)
theorem G_log_Renew_ok : ∀ f, Contract Try.prog f (G_log_Renew f) := (addS_ok (addS_ok (addS_ok (addS_ok (addS_ok (addS_ok (addS_ok (noS_ok _) contract_log_Scan) contract_log_sound) contract_log_area) contract_log_sectors) contract_log_write) contract_log_sector) contract_log_mark)
theorem G24_16 : G_log_Renew 16 = plain scanG := by simp [G_log_Renew, addS]
theorem G24_55 : G_log_Renew 55 = plain soundG := by simp [G_log_Renew, addS]
theorem G24_43 : G_log_Renew 43 = plain areaG := by simp [G_log_Renew, addS]
theorem G24_51 : G_log_Renew 51 = plain sectorsG := by simp [G_log_Renew, addS]
theorem G24_52 : G_log_Renew 52 = plain writeG := by simp [G_log_Renew, addS]
theorem G24_56 : G_log_Renew 56 = plain sectorG := by simp [G_log_Renew, addS]
theorem G24_42 : G_log_Renew 42 = plain markG := by simp [G_log_Renew, addS]
set_option maxHeartbeats 16000000 in
set_option maxRecDepth 1000000 in
set_option linter.unusedSimpArgs false in
set_option linter.unusedVariables false in
theorem contract_log_Renew : Contract Try.prog 24 (plain renewG) := by
  have hb : ∃ c, Try.f24.body = some c ∧ codeOk 110 c = true ∧ cCode Try.prog c = sc_log_Renew := ⟨_, rfl, by kernel_rfl, by kernel_rfl⟩
  obtain ⟨c, hb1, hb2, hb3⟩ := hb
  refine contract_of (n := 2) G_log_Renew_ok hB hD Try.func24 hb1 (by kernel_rfl) hb2 hb3 (rs := [.tmp 4, .tmp 5]) (by kernel_rfl) (by decide) ?_ ?_
  · intro args x h
    obtain ⟨y, hy, -⟩ := Option.map_eq_some_iff.1 h
    obtain ⟨⟨ss, cs, f, g, l, k, h⟩, rfl, -⟩ := specE_some hy
    rfl
  · intro args r hr
    obtain ⟨y, hy, rfl⟩ := Option.map_eq_some_iff.1 hr
    obtain ⟨⟨ss, cs, f, g, l, k, h⟩, rfl, hc, rfl⟩ := specE_some hy
    clear hr hy
    have hc : ((k = 2 ∨ l = []) ∧ l.length < 4000000) ∧ ss.length < 4000000 ∧ cs.length < 4000000 := hc
    change awp _ _ (postQ _ (.v (.tup [.inl (.s (.list 3 (encs opE (renewD ⟨ss, cs⟩ l).1) false)), .inl (.s (.int .i64 (renewD ⟨ss, cs⟩ l).2))]))) _
    unfold renewG_enc sc_log_Renew
    obtain ⟨⟨hk, hll⟩, c1, c2⟩ := hc
    rw [renew_eq]
    by_cases he : (scanD ⟨ss, cs⟩).2 = 0
    case neg =>
      rw [if_pos he]
      simp (maxSteps := 4000000) only [↓exT_call G24_16, ↓exT_callo G24_16, ↓exT_calloG G24_16, ↓exT_call G24_55, ↓exT_callo G24_55, ↓exT_calloG G24_55, ↓exT_call G24_43, ↓exT_callo G24_43, ↓exT_calloG G24_43, ↓exT_call G24_51, ↓exT_callo G24_51, ↓exT_calloG G24_51, ↓exT_call G24_52, ↓exT_callo G24_52, ↓exT_calloG G24_52, ↓exT_call G24_56, ↓exT_callo G24_56, ↓exT_calloG G24_56, ↓exT_call G24_42, ↓exT_callo G24_42, ↓exT_calloG G24_42, c1, c2, he, go_sem, Nat.reduceAdd, Nat.reduceSub, Nat.reduceMul, Nat.reduceEqDiff, Nat.reduceLeDiff, Nat.reduceLT, Nat.reduceBEq, Int.reduceLE, Int.reduceLT, Int.reduceToNat, Int.reduceNeg, Int.reduceAdd, Int.reduceSub, Int.reduceMul, ↓reduceIte]
    rw [if_neg (by simp [he])]
    by_cases hs : soundE l = 0
    case neg =>
      rw [if_pos hs]
      simp (maxSteps := 4000000) only [↓exT_call G24_16, ↓exT_callo G24_16, ↓exT_calloG G24_16, ↓exT_call G24_55, ↓exT_callo G24_55, ↓exT_calloG G24_55, ↓exT_call G24_43, ↓exT_callo G24_43, ↓exT_calloG G24_43, ↓exT_call G24_51, ↓exT_callo G24_51, ↓exT_calloG G24_51, ↓exT_call G24_52, ↓exT_callo G24_52, ↓exT_calloG G24_52, ↓exT_call G24_56, ↓exT_callo G24_56, ↓exT_calloG G24_56, ↓exT_call G24_42, ↓exT_callo G24_42, ↓exT_calloG G24_42, c1, c2, he, hs, go_sem, Nat.reduceAdd, Nat.reduceSub, Nat.reduceMul, Nat.reduceEqDiff, Nat.reduceLeDiff, Nat.reduceLT, Nat.reduceBEq, Int.reduceLE, Int.reduceLT, Int.reduceToNat, Int.reduceNeg, Int.reduceAdd, Int.reduceSub, Int.reduceMul, ↓reduceIte]
      exact ⟨hk, hll⟩
    rw [if_neg (by simp [hs])]
    obtain ⟨s1, s2, s3⟩ := sound_0 hs
    obtain rfl := hk.resolve_right s1
    obtain ⟨k1, k2, k3, k4, k5, k6⟩ := scan_ok he
    simp only at k2
    obtain ⟨q1, q2, q3, -, -⟩ := (right_iff _).1 k1
    simp only at q1 q2 q3
    have hmn : maxNum = 2147483647 := rfl
    generalize hgg : (scanD ⟨ss, cs⟩).1.gen = G at *
    have hff := from_fit (n := ss.length) (g := G + 1) k2
    have hG1 : ((G : Int) + 1) < 4294967296 := by omega
    have hG0 : (0 : Int) ≤ (G : Int) + 1 := by omega
    have hGn : ((G : Int) + 1).toNat = G + 1 := by omega
    have hro : renewOps ss.length (G + 1) l = opsW (renewWs ss.length (G + 1) l) ++ [opS, opW 0 (markS (G + 1)), opS] := rfl
    have hrw : renewWs ss.length (G + 1) l = placed (fromN ss.length (G + 1)) (secsAll (G + 1) l) ++ (if (secsAll (G + 1) l).length < halfN ss.length then [⟨((fromN ss.length (G + 1) + (secsAll (G + 1) l).length : Nat) : Int), fill []⟩] else []) := rfl
    generalize hA : fromN ss.length (G + 1) = A at *
    have hF : A + halfN ss.length ≤ 300 := by omega
    generalize hhf : halfN ss.length = hf at *
    simp (maxSteps := 4000000) only [↓exT_call G24_16, ↓exT_callo G24_16, ↓exT_calloG G24_16, ↓exT_call G24_55, ↓exT_callo G24_55, ↓exT_calloG G24_55, ↓exT_call G24_43, ↓exT_callo G24_43, ↓exT_calloG G24_43, ↓exT_call G24_51, ↓exT_callo G24_51, ↓exT_calloG G24_51, ↓exT_call G24_52, ↓exT_callo G24_52, ↓exT_calloG G24_52, ↓exT_call G24_56, ↓exT_callo G24_56, ↓exT_calloG G24_56, ↓exT_call G24_42, ↓exT_callo G24_42, ↓exT_calloG G24_42, c1, c2, he, hs, hll, hgg, hG0, hG1, hGn, hA, hhf, q1, q2, go_sem, Nat.reduceAdd, Nat.reduceSub, Nat.reduceMul, Nat.reduceEqDiff, Nat.reduceLeDiff, Nat.reduceLT, Nat.reduceBEq, Int.reduceLE, Int.reduceLT, Int.reduceToNat, Int.reduceNeg, Int.reduceAdd, Int.reduceSub, Int.reduceMul, ↓reduceIte]
    all_goals ((repeat' (first | with_reducible apply And.intro | intro)) <;> first | omega | (with_reducible rfl) | skip)
    refine awp_loopM (α := Nat) (fun i => [(9, .c (.s (.int .i64 ((G : Int) + 1)))), (10, .c (.s (.int .i64 A))), (11, .c (.s (.int .i64 (A + hf : Nat)))), (12, .c (.own 12 (secsAll (G + 1) (l.take i)).length)), (42, .c (.s (.list 2 (encs recE l) h))), (43, .c (.s (.int .i64 l.length))), (44, .c (.s (.int .i64 i)))])
      (fun i => [(12, .row 1 (encs strE (secsAll (G + 1) (l.take i))))]) (fun i => l.length - i) 0 (fun i => i ≤ l.length) (Nat.zero_le _) (Weak.trans (Weak.nilSlot 12 12 1 rfl rfl) (Weak.meets ?_)) ?_
    · simp (maxSteps := 4000000) only [↓exT_call G24_16, ↓exT_callo G24_16, ↓exT_calloG G24_16, ↓exT_call G24_55, ↓exT_callo G24_55, ↓exT_calloG G24_55, ↓exT_call G24_43, ↓exT_callo G24_43, ↓exT_calloG G24_43, ↓exT_call G24_51, ↓exT_callo G24_51, ↓exT_calloG G24_51, ↓exT_call G24_52, ↓exT_callo G24_52, ↓exT_calloG G24_52, ↓exT_call G24_56, ↓exT_callo G24_56, ↓exT_calloG G24_56, ↓exT_call G24_42, ↓exT_callo G24_42, ↓exT_calloG G24_42, go_sem, Nat.reduceAdd, Nat.reduceSub, Nat.reduceMul, Nat.reduceEqDiff, Nat.reduceLeDiff, Nat.reduceLT, Nat.reduceBEq, Int.reduceLE, Int.reduceLT, Int.reduceToNat, Int.reduceNeg, Int.reduceAdd, Int.reduceSub, Int.reduceMul, ↓reduceIte]
      simp [secsAll, encs]
    intro x hx
    have hal := secsAll_le (g := G + 1) (l := l.take x) (fun r hr => s3 r (List.mem_of_mem_take hr))
    simp only [List.length_take] at hal
    by_cases hxl : x < l.length
    · have hxi : (x : Int) < (l.length : Int) := by omega
      have hm := chain_mem s2 _ (mem_getD (l := l) hxl)
      have ht := s3 _ (mem_getD (l := l) hxl)
      have hb := body_len_le ht
      have hst := secsAll_take (g := G + 1) hxl
      have hm1 : 0 ≤ (l.getD x default).num := by omega
      have hm2 : (l.getD x default).num < 4294967296 := by omega
      have ht2 : (l.getD x default).text.length < 4000000 := by omega
      have hb2 : (encs strE (secsAll (G + 1) (l.take x))).length = (secsAll (G + 1) (l.take x)).length := encs_len
      simp (maxSteps := 4000000) only [↓exT_call G24_16, ↓exT_callo G24_16, ↓exT_calloG G24_16, ↓exT_call G24_55, ↓exT_callo G24_55, ↓exT_calloG G24_55, ↓exT_call G24_43, ↓exT_callo G24_43, ↓exT_calloG G24_43, ↓exT_call G24_51, ↓exT_callo G24_51, ↓exT_calloG G24_51, ↓exT_call G24_52, ↓exT_callo G24_52, ↓exT_calloG G24_52, ↓exT_call G24_56, ↓exT_callo G24_56, ↓exT_calloG G24_56, ↓exT_call G24_42, ↓exT_callo G24_42, ↓exT_calloG G24_42, hxi, hG0, hG1, hGn, hm1, hm2, ht2, str_two, go_sem, Nat.reduceAdd, Nat.reduceSub, Nat.reduceMul, Nat.reduceEqDiff, Nat.reduceLeDiff, Nat.reduceLT, Nat.reduceBEq, Int.reduceLE, Int.reduceLT, Int.reduceToNat, Int.reduceNeg, Int.reduceAdd, Int.reduceSub, Int.reduceMul, ↓reduceIte]
      refine ⟨by omega, by omega, by omega, x + 1, by omega, by omega, ?_⟩
      rw [hst]
      simp
    have hxi : ¬ (x : Int) < (l.length : Int) := by omega
    obtain rfl : x = l.length := by omega
    rw [List.take_length] at *
    generalize secsAll (G + 1) l = ALL at *
    by_cases hcf : hf < ALL.length
    case pos =>
      have hcf' : ((A + hf : Nat) : Int) < (A : Int) + (ALL.length : Int) := by omega
      rw [if_pos (.inl hcf)]
      simp (maxSteps := 4000000) only [↓exT_call G24_16, ↓exT_callo G24_16, ↓exT_calloG G24_16, ↓exT_call G24_55, ↓exT_callo G24_55, ↓exT_calloG G24_55, ↓exT_call G24_43, ↓exT_callo G24_43, ↓exT_calloG G24_43, ↓exT_call G24_51, ↓exT_callo G24_51, ↓exT_calloG G24_51, ↓exT_call G24_52, ↓exT_callo G24_52, ↓exT_calloG G24_52, ↓exT_call G24_56, ↓exT_callo G24_56, ↓exT_calloG G24_56, ↓exT_call G24_42, ↓exT_callo G24_42, ↓exT_calloG G24_42, hxi, hcf', go_sem, Nat.reduceAdd, Nat.reduceSub, Nat.reduceMul, Nat.reduceEqDiff, Nat.reduceLeDiff, Nat.reduceLT, Nat.reduceBEq, Int.reduceLE, Int.reduceLT, Int.reduceToNat, Int.reduceNeg, Int.reduceAdd, Int.reduceSub, Int.reduceMul, ↓reduceIte]
      all_goals ((repeat' (first | with_reducible apply And.intro | intro)) <;> first | omega | (with_reducible rfl) | skip)
    have hcf' : ¬ ((A + hf : Nat) : Int) < (A : Int) + (ALL.length : Int) := by omega
    by_cases hmg : maxNum < G + 1
    case pos =>
      have hmg' : 2147483647 < (G : Int) + 1 := by omega
      rw [if_pos (.inr hmg)]
      simp (maxSteps := 4000000) only [↓exT_call G24_16, ↓exT_callo G24_16, ↓exT_calloG G24_16, ↓exT_call G24_55, ↓exT_callo G24_55, ↓exT_calloG G24_55, ↓exT_call G24_43, ↓exT_callo G24_43, ↓exT_calloG G24_43, ↓exT_call G24_51, ↓exT_callo G24_51, ↓exT_calloG G24_51, ↓exT_call G24_52, ↓exT_callo G24_52, ↓exT_calloG G24_52, ↓exT_call G24_56, ↓exT_callo G24_56, ↓exT_calloG G24_56, ↓exT_call G24_42, ↓exT_callo G24_42, ↓exT_calloG G24_42, hxi, hcf', hmg', go_sem, Nat.reduceAdd, Nat.reduceSub, Nat.reduceMul, Nat.reduceEqDiff, Nat.reduceLeDiff, Nat.reduceLT, Nat.reduceBEq, Int.reduceLE, Int.reduceLT, Int.reduceToNat, Int.reduceNeg, Int.reduceAdd, Int.reduceSub, Int.reduceMul, ↓reduceIte]
      all_goals ((repeat' (first | with_reducible apply And.intro | intro)) <;> first | omega | (with_reducible rfl) | skip)
    have hmg' : ¬ 2147483647 < (G : Int) + 1 := by omega
    rw [if_neg (by omega), hro, hrw]
    simp (maxSteps := 4000000) only [↓exT_call G24_16, ↓exT_callo G24_16, ↓exT_calloG G24_16, ↓exT_call G24_55, ↓exT_callo G24_55, ↓exT_calloG G24_55, ↓exT_call G24_43, ↓exT_callo G24_43, ↓exT_calloG G24_43, ↓exT_call G24_51, ↓exT_callo G24_51, ↓exT_calloG G24_51, ↓exT_call G24_52, ↓exT_callo G24_52, ↓exT_calloG G24_52, ↓exT_call G24_56, ↓exT_callo G24_56, ↓exT_calloG G24_56, ↓exT_call G24_42, ↓exT_callo G24_42, ↓exT_calloG G24_42, hxi, hcf', hmg', go_sem, Nat.reduceAdd, Nat.reduceSub, Nat.reduceMul, Nat.reduceEqDiff, Nat.reduceLeDiff, Nat.reduceLT, Nat.reduceBEq, Int.reduceLE, Int.reduceLT, Int.reduceToNat, Int.reduceNeg, Int.reduceAdd, Int.reduceSub, Int.reduceMul, ↓reduceIte]
    all_goals ((repeat' (first | with_reducible apply And.intro | intro)) <;> first | omega | (with_reducible rfl) | skip)
    refine awp_loopM (α := Nat) (fun i => [(9, .c (.s (.int .i64 ((G : Int) + 1)))), (10, .c (.s (.int .i64 A))), (11, .c (.s (.int .i64 (A + hf : Nat)))), (12, .c (.own 12 ALL.length)), (17, .c (.own 17 i)), (71, .c (.own 12 ALL.length)), (72, .c (.s (.int .i64 ALL.length))), (73, .c (.s (.int .i64 i)))])
      (fun i => [(12, .row 1 (encs strE ALL)), (17, .row 3 (encs opE (opsW (placed A (ALL.take i)))))]) (fun i => ALL.length - i) 0 (fun i => i ≤ ALL.length) (Nat.zero_le _) (Weak.trans (Weak.nilSlot 17 17 3 rfl rfl) (Weak.meets ?_)) ?_
    · simp (maxSteps := 4000000) only [↓exT_call G24_16, ↓exT_callo G24_16, ↓exT_calloG G24_16, ↓exT_call G24_55, ↓exT_callo G24_55, ↓exT_calloG G24_55, ↓exT_call G24_43, ↓exT_callo G24_43, ↓exT_calloG G24_43, ↓exT_call G24_51, ↓exT_callo G24_51, ↓exT_calloG G24_51, ↓exT_call G24_52, ↓exT_callo G24_52, ↓exT_calloG G24_52, ↓exT_call G24_56, ↓exT_callo G24_56, ↓exT_calloG G24_56, ↓exT_call G24_42, ↓exT_callo G24_42, ↓exT_calloG G24_42, go_sem, Nat.reduceAdd, Nat.reduceSub, Nat.reduceMul, Nat.reduceEqDiff, Nat.reduceLeDiff, Nat.reduceLT, Nat.reduceBEq, Int.reduceLE, Int.reduceLT, Int.reduceToNat, Int.reduceNeg, Int.reduceAdd, Int.reduceSub, Int.reduceMul, ↓reduceIte]
      simp [placed, opsW, encs]
    intro y hy
    have hpl : (encs opE (opsW (placed A (ALL.take y)))).length = y := by simp [encs, opsW, placed_len]; omega
    by_cases hyl : y < ALL.length
    · have hyi : (y : Int) < (ALL.length : Int) := by omega
      have ht := placed_take (a := A) hyl
      have ec : ((A : Int) + (y : Int)) = ((A + y : Nat) : Int) := by omega
      simp (maxSteps := 4000000) only [↓exT_call G24_16, ↓exT_callo G24_16, ↓exT_calloG G24_16, ↓exT_call G24_55, ↓exT_callo G24_55, ↓exT_calloG G24_55, ↓exT_call G24_43, ↓exT_callo G24_43, ↓exT_calloG G24_43, ↓exT_call G24_51, ↓exT_callo G24_51, ↓exT_calloG G24_51, ↓exT_call G24_52, ↓exT_callo G24_52, ↓exT_calloG G24_52, ↓exT_call G24_56, ↓exT_callo G24_56, ↓exT_calloG G24_56, ↓exT_call G24_42, ↓exT_callo G24_42, ↓exT_calloG G24_42, hyi, hpl, ec, ops_one, go_sem, Nat.reduceAdd, Nat.reduceSub, Nat.reduceMul, Nat.reduceEqDiff, Nat.reduceLeDiff, Nat.reduceLT, Nat.reduceBEq, Int.reduceLE, Int.reduceLT, Int.reduceToNat, Int.reduceNeg, Int.reduceAdd, Int.reduceSub, Int.reduceMul, ↓reduceIte]
      have hpl2 : (encs opE (opsW (placed A (ALL.take (y + 1))))).length = y + 1 := by simp [encs, opsW, placed_len]; omega
      rw [encs_len] at hpl2
      rw [← ht]
      exact ⟨by omega, by omega, by omega, y + 1, by omega, by omega, ⟨hpl2, by omega⟩, rfl⟩
    have hyi : ¬ (y : Int) < (ALL.length : Int) := by omega
    obtain rfl : y = ALL.length := by omega
    rw [List.take_length] at *
    have e0 : (A : Int) + (ALL.length : Int) = ((A + ALL.length : Nat) : Int) := by omega
    have hm2 : (G : Int) + 1 < 4294967296 := hG1
    by_cases hlt : ALL.length < hf
    · have hlt' : ((A + ALL.length : Nat) : Int) < ((A + hf : Nat) : Int) := by omega
      rw [if_pos hlt]
      simp (maxSteps := 4000000) only [↓exT_call G24_16, ↓exT_callo G24_16, ↓exT_calloG G24_16, ↓exT_call G24_55, ↓exT_callo G24_55, ↓exT_calloG G24_55, ↓exT_call G24_43, ↓exT_callo G24_43, ↓exT_calloG G24_43, ↓exT_call G24_51, ↓exT_callo G24_51, ↓exT_calloG G24_51, ↓exT_call G24_52, ↓exT_callo G24_52, ↓exT_calloG G24_52, ↓exT_call G24_56, ↓exT_callo G24_56, ↓exT_calloG G24_56, ↓exT_call G24_42, ↓exT_callo G24_42, ↓exT_calloG G24_42, hyi, hpl, e0, hlt', ops_one, ops_three, hG0, hG1, hGn, go_sem, Nat.reduceAdd, Nat.reduceSub, Nat.reduceMul, Nat.reduceEqDiff, Nat.reduceLeDiff, Nat.reduceLT, Nat.reduceBEq, Int.reduceLE, Int.reduceLT, Int.reduceToNat, Int.reduceNeg, Int.reduceAdd, Int.reduceSub, Int.reduceMul, ↓reduceIte]
      all_goals ((repeat' (first | with_reducible apply And.intro | intro)) <;> first | omega | (with_reducible rfl) | skip)
      all_goals (simp [encs, opsW, placed_len] <;> omega)
    · have hlt' : ¬ ((A + ALL.length : Nat) : Int) < ((A + hf : Nat) : Int) := by omega
      rw [if_neg hlt, List.append_nil]
      simp (maxSteps := 4000000) only [↓exT_call G24_16, ↓exT_callo G24_16, ↓exT_calloG G24_16, ↓exT_call G24_55, ↓exT_callo G24_55, ↓exT_calloG G24_55, ↓exT_call G24_43, ↓exT_callo G24_43, ↓exT_calloG G24_43, ↓exT_call G24_51, ↓exT_callo G24_51, ↓exT_calloG G24_51, ↓exT_call G24_52, ↓exT_callo G24_52, ↓exT_calloG G24_52, ↓exT_call G24_56, ↓exT_callo G24_56, ↓exT_calloG G24_56, ↓exT_call G24_42, ↓exT_callo G24_42, ↓exT_calloG G24_42, hyi, hpl, e0, hlt', ops_one, ops_three, hG0, hG1, hGn, go_sem, Nat.reduceAdd, Nat.reduceSub, Nat.reduceMul, Nat.reduceEqDiff, Nat.reduceLeDiff, Nat.reduceLT, Nat.reduceBEq, Int.reduceLE, Int.reduceLT, Int.reduceToNat, Int.reduceNeg, Int.reduceAdd, Int.reduceSub, Int.reduceMul, ↓reduceIte]
      all_goals ((repeat' (first | with_reducible apply And.intro | intro)) <;> first | omega | (with_reducible rfl) | skip)

end Go.Proofs.Ytniioedflegdkaa
