/- R1 R2 R3 R4 R5 R6 R7 -/
import Derived.Test.YtniioedflegdkaaGA
import Derived.Test.YtniioedflegdkaaGA
import Derived.Test.YtniioedflegdkaaLA
import Derived.Test.YtniioedflegdkaaGA
import Derived.Test.YtniioedflegdkaaGA
import Derived.Test.YtniioedflegdkaaGA
import Derived.Test.YtniioedflegdkaaGB
import Derived.Test.YtniioedflegdkaaGB
set_option linter.all false
/- The document's functions on records, first part. -/
namespace Go.Proofs.Ytniioedflegdkaa
open Go Go.Ab Go.Proofs Go.Fs
def rFourG : List V → Option V
  | [.c (.s (.int .i64 n))] => if 0 ≤ n ∧ n < 4294967296 then some (.c (.s (.str (four n.toNat)))) else none
  | _ => none
theorem rFourG_call {n : Int} {gt : Bool} {K : V → Prop} : callE rFourG [.c (.s (.int .i64 n))] gt K = ((gt = true → 0 ≤ n ∧ n < 4294967296) ∧ bindV (ifV gt (.c (.s (.str (four n.toNat))))) K) := callE_of rfl
theorem rFourG_callo {n : Int} {m : Nat → Option Ab.Obj} {locs : List Nat} {K : V → (Nat → Option Ab.Obj) → Prop} : callO rFourG (some [.c (.s (.int .i64 n))]) m locs K = ((0 ≤ n ∧ n < 4294967296) ∧ K (.c (.s (.str (four n.toNat)))) (sealW m locs (.c (.s (.str (four n.toNat)))))) := callO_of rfl
attribute [go_sem] rFourG_call rFourG_callo

def sc_ref18_four : SC := .seq (.reg [⟨some 2, .mv, [.k (.c (.s (.str [])))], none⟩]) (.seq (.reg [⟨some 3, .mv, [.t 0], none⟩,
⟨some 4, .bin .rem, [.t 3, .k (.c (.s (.int .i64 256)))], none⟩,
⟨some 5, .conv .u8, [.t 4], none⟩,
⟨some 6, .mv, [.t 0], none⟩,
⟨some 7, .bin .quo, [.t 6, .k (.c (.s (.int .i64 256)))], none⟩,
⟨some 8, .bin .rem, [.t 7, .k (.c (.s (.int .i64 256)))], none⟩,
⟨some 9, .conv .u8, [.t 8], none⟩,
⟨some 10, .mv, [.t 0], none⟩,
⟨some 11, .bin .quo, [.t 10, .k (.c (.s (.int .i64 65536)))], none⟩,
⟨some 12, .bin .rem, [.t 11, .k (.c (.s (.int .i64 256)))], none⟩,
⟨some 13, .conv .u8, [.t 12], none⟩,
⟨some 14, .mv, [.t 0], none⟩,
⟨some 15, .bin .quo, [.t 14, .k (.c (.s (.int .i64 16777216)))], none⟩,
⟨some 16, .conv .u8, [.t 15], none⟩,
⟨some 17, .bslice 1 4 [.int .u8 0] [0, 1, 2, 3], [.t 5, .t 9, .t 13, .t 16], none⟩,
⟨some 18, .toStr, [.t 17], none⟩,
⟨some 2, .mv, [.t 18], none⟩]) (.ret))
noncomputable def G_ref18_four : FuncId → Ab.Spec := noS
theorem G_ref18_four_ok : ∀ f, Contract Try.prog f (G_ref18_four f) := (noS_ok _)
set_option maxHeartbeats 16000000 in
set_option maxRecDepth 1000000 in
set_option linter.unusedSimpArgs false in
set_option linter.unusedVariables false in
theorem contract_ref18_four : Contract Try.prog 76 (plain rFourG) := by
  have hb : ∃ c, Try.f76.body = some c ∧ codeOk 19 c = true ∧ cCode Try.prog c = sc_ref18_four := ⟨_, rfl, by kernel_rfl, by kernel_rfl⟩
  obtain ⟨c, hb1, hb2, hb3⟩ := hb
  refine contract_of (n := 1) G_ref18_four_ok hB hD Try.func76 hb1 (by kernel_rfl) hb2 hb3 (rs := [.tmp 2]) (by kernel_rfl) (by decide) ?_ ?_
  · intro args x h
    unfold plain rFourG at h
    split at h <;> simp_all
  · intro args r hr
    unfold plain rFourG at hr
    split at hr
    case h_2 => cases hr
    rename_i n
    split at hr
    case isFalse => cases hr
    rename_i hc
    simp only [Option.map_some, Option.some.injEq] at hr
    subst hr
    unfold sc_ref18_four
    obtain ⟨k, rfl⟩ : ∃ k : Nat, n = k := ⟨n.toNat, by omega⟩
    have m0 : (k : Int) % 256 % 256 = (k : Int) % 256 := by omega
    have m1 : (k : Int) / 256 % 256 % 256 = (k : Int) / 256 % 256 := by omega
    have m2 : (k : Int) / 65536 % 256 % 256 = (k : Int) / 65536 % 256 := by omega
    have h0 : 0 ≤ (k : Int) % 256 ∧ (k : Int) % 256 < 256 := by omega
    have h1 : 0 ≤ (k : Int) / 256 % 256 ∧ (k : Int) / 256 % 256 < 256 := by omega
    have h2 : 0 ≤ (k : Int) / 65536 % 256 ∧ (k : Int) / 65536 % 256 < 256 := by omega
    have h3 : 0 ≤ (k : Int) / 16777216 % 256 ∧ (k : Int) / 16777216 % 256 < 256 := by omega
    have hf : [UInt8.ofNat ((k : Int) % 256).toNat, UInt8.ofNat ((k : Int) / 256 % 256).toNat, UInt8.ofNat ((k : Int) / 65536 % 256).toNat, UInt8.ofNat ((k : Int) / 16777216 % 256).toNat] = four k := four_eq k
    simp +contextual (maxSteps := 4000000) only [m0, m1, m2, h0.1, h0.2, h1.1, h1.2, h2.1, h2.2, h3.1, h3.2, hf, go_sem, Nat.reduceAdd, Nat.reduceSub, Nat.reduceMul, Nat.reduceEqDiff, Nat.reduceLeDiff, Nat.reduceLT, Nat.reduceBEq, Int.reduceLE, Int.reduceLT, Int.reduceToNat, Int.reduceNeg, Int.reduceAdd, Int.reduceSub, Int.reduceMul, ↓reduceIte]
    omega

def rFillG : List V → Option V
  | [.c (.s (.str s))] => if s.length ≤ 32 then some (.c (.s (.str (fill s)))) else none
  | _ => none
theorem rFillG_call {s : Bs} {gt : Bool} {K : V → Prop} : callE rFillG [.c (.s (.str s))] gt K = ((gt = true → s.length ≤ 32) ∧ bindV (ifV gt (.c (.s (.str (fill s))))) K) := callE_of rfl
theorem rFillG_callo {s : Bs} {m : Nat → Option Ab.Obj} {locs : List Nat} {K : V → (Nat → Option Ab.Obj) → Prop} : callO rFillG (some [.c (.s (.str s))]) m locs K = ((s.length ≤ 32) ∧ K (.c (.s (.str (fill s)))) (sealW m locs (.c (.s (.str (fill s)))))) := callO_of rfl
attribute [go_sem] rFillG_call rFillG_callo

def sc_ref18_Fill : SC := .seq (.reg [⟨some 2, .mv, [.k (.c (.s (.str [])))], none⟩]) (.seq (.block 0 (.loop (.seq (.seq (.reg [⟨some 3, .mv, [.t 0], none⟩,
⟨some 4, .len true, [.t 3], none⟩,
⟨some 5, .bin .lss, [.t 4, .k (.c (.s (.int .i64 32)))], none⟩]) (.cond (.t 5) (.skip) (.exit 0))) (.block 1 (.reg [⟨some 6, .mv, [.t 0], none⟩,
⟨some 7, .bslice 1 1 [.int .u8 0] [0], [.k (.c (.s (.int .u8 0)))], none⟩,
⟨some 8, .toStr, [.t 7], none⟩,
⟨some 9, .bin .add, [.t 6, .t 8], none⟩,
⟨some 0, .mv, [.t 9], none⟩]))))) (.seq (.reg [⟨some 10, .mv, [.t 0], none⟩,
⟨some 2, .mv, [.t 10], none⟩]) (.ret)))
noncomputable def G_ref18_Fill : FuncId → Ab.Spec := noS
theorem G_ref18_Fill_ok : ∀ f, Contract Try.prog f (G_ref18_Fill f) := (noS_ok _)
set_option maxHeartbeats 16000000 in
set_option maxRecDepth 1000000 in
set_option linter.unusedSimpArgs false in
set_option linter.unusedVariables false in
theorem contract_ref18_Fill : Contract Try.prog 57 (plain rFillG) := by
  have hb : ∃ c, Try.f57.body = some c ∧ codeOk 11 c = true ∧ cCode Try.prog c = sc_ref18_Fill := ⟨_, rfl, by kernel_rfl, by kernel_rfl⟩
  obtain ⟨c, hb1, hb2, hb3⟩ := hb
  refine contract_of (n := 1) G_ref18_Fill_ok hB hD Try.func57 hb1 (by kernel_rfl) hb2 hb3 (rs := [.tmp 2]) (by kernel_rfl) (by decide) ?_ ?_
  · intro args x h
    unfold plain rFillG at h
    split at h <;> simp_all
  · intro args r hr
    unfold plain rFillG at hr
    split at hr
    case h_2 => cases hr
    rename_i s
    split at hr
    case isFalse => cases hr
    rename_i hc
    simp only [Option.map_some, Option.some.injEq] at hr
    subst hr
    unfold sc_ref18_Fill
    simp +contextual (maxSteps := 4000000) only [go_sem, Nat.reduceAdd, Nat.reduceSub, Nat.reduceMul, Nat.reduceEqDiff, Nat.reduceLeDiff, Nat.reduceLT, Nat.reduceBEq, Int.reduceLE, Int.reduceLT, Int.reduceToNat, Int.reduceNeg, Int.reduceAdd, Int.reduceSub, Int.reduceMul, ↓reduceIte]
    refine awp_loopM (α := Nat) (fun i => [(0, .c (.s (.str (s ++ List.replicate i 0))))]) (fun _ => []) (fun i => 32 - s.length - i) 0 (fun i => i ≤ 32 - s.length) (Nat.zero_le _) (Weak.meets ?_) ?_
    · simp +contextual (maxSteps := 4000000) only [go_sem, Nat.reduceAdd, Nat.reduceSub, Nat.reduceMul, Nat.reduceEqDiff, Nat.reduceLeDiff, Nat.reduceLT, Nat.reduceBEq, Int.reduceLE, Int.reduceLT, Int.reduceToNat, Int.reduceNeg, Int.reduceAdd, Int.reduceSub, Int.reduceMul, ↓reduceIte]
      simp
    intro x hx
    have hlen : s.length + (List.replicate x (0 : UInt8)).length = s.length + x := by simp
    by_cases hxl : x < 32 - s.length
    · have hlt : ((s.length + x : Nat) : Int) < 32 := by omega
      simp +contextual (maxSteps := 4000000) only [hlen, hlt, go_sem, Nat.reduceAdd, Nat.reduceSub, Nat.reduceMul, Nat.reduceEqDiff, Nat.reduceLeDiff, Nat.reduceLT, Nat.reduceBEq, Int.reduceLE, Int.reduceLT, Int.reduceToNat, Int.reduceNeg, Int.reduceAdd, Int.reduceSub, Int.reduceMul, ↓reduceIte]
      refine ⟨by omega, x + 1, by omega, by omega, ?_⟩
      rw [List.append_assoc, List.replicate_succ']; rfl
    · have hlt : ¬ ((s.length + x : Nat) : Int) < 32 := by omega
      obtain rfl : x = 32 - s.length := by omega
      simp +contextual (maxSteps := 4000000) only [hlen, hlt, go_sem, Nat.reduceAdd, Nat.reduceSub, Nat.reduceMul, Nat.reduceEqDiff, Nat.reduceLeDiff, Nat.reduceLT, Nat.reduceBEq, Int.reduceLE, Int.reduceLT, Int.reduceToNat, Int.reduceNeg, Int.reduceAdd, Int.reduceSub, Int.reduceMul, ↓reduceIte]
      rfl

def rValueG : List V → Option V
  | [.c (.s (.str s))] => if 4 ≤ s.length then some (.c (.s (.int .i64 (num4 s : Nat)))) else none
  | _ => none
theorem rValueG_call {s : Bs} {gt : Bool} {K : V → Prop} : callE rValueG [.c (.s (.str s))] gt K = ((gt = true → 4 ≤ s.length) ∧ bindV (ifV gt (.c (.s (.int .i64 (num4 s : Nat))))) K) := callE_of rfl
theorem rValueG_callo {s : Bs} {m : Nat → Option Ab.Obj} {locs : List Nat} {K : V → (Nat → Option Ab.Obj) → Prop} : callO rValueG (some [.c (.s (.str s))]) m locs K = ((4 ≤ s.length) ∧ K (.c (.s (.int .i64 (num4 s : Nat)))) (sealW m locs (.c (.s (.int .i64 (num4 s : Nat)))))) := callO_of rfl
attribute [go_sem] rValueG_call rValueG_callo

def sc_ref18_value : SC := .seq (.reg [⟨some 2, .mv, [.k (.c (.s (.int .i64 0)))], none⟩]) (.seq (.regD [⟨some 3, .mv, [.t 0], none⟩,
⟨some 4, .idx, [.t 3, .k (.c (.s (.int .i64 0)))], none⟩,
⟨some 5, .conv .i64, [.t 4], none⟩,
⟨some 6, .mv, [.t 0], none⟩,
⟨some 7, .idx, [.t 6, .k (.c (.s (.int .i64 1)))], none⟩,
⟨some 8, .conv .i64, [.t 7], none⟩,
⟨some 9, .bin .mul, [.k (.c (.s (.int .i64 256))), .t 8], none⟩,
⟨some 10, .bin .add, [.t 5, .t 9], none⟩,
⟨some 11, .mv, [.t 0], none⟩,
⟨some 12, .idx, [.t 11, .k (.c (.s (.int .i64 2)))], none⟩,
⟨some 13, .conv .i64, [.t 12], none⟩,
⟨some 14, .bin .mul, [.k (.c (.s (.int .i64 65536))), .t 13], none⟩,
⟨some 15, .bin .add, [.t 10, .t 14], none⟩,
⟨some 16, .mv, [.t 0], none⟩,
⟨some 17, .idx, [.t 16, .k (.c (.s (.int .i64 3)))], none⟩,
⟨some 18, .conv .i64, [.t 17], none⟩,
⟨some 19, .bin .mul, [.k (.c (.s (.int .i64 16777216))), .t 18], none⟩,
⟨some 20, .bin .add, [.t 15, .t 19], none⟩,
⟨some 2, .mv, [.t 20], none⟩] []) (.ret))
noncomputable def G_ref18_value : FuncId → Ab.Spec := noS
theorem G_ref18_value_ok : ∀ f, Contract Try.prog f (G_ref18_value f) := (noS_ok _)
set_option maxHeartbeats 16000000 in
set_option maxRecDepth 1000000 in
set_option linter.unusedSimpArgs false in
set_option linter.unusedVariables false in
theorem contract_ref18_value : Contract Try.prog 47 (plain rValueG) := by
  have hb : ∃ c, Try.f47.body = some c ∧ codeOk 21 c = true ∧ cCode Try.prog c = sc_ref18_value := ⟨_, rfl, by kernel_rfl, by kernel_rfl⟩
  obtain ⟨c, hb1, hb2, hb3⟩ := hb
  refine contract_of (n := 1) G_ref18_value_ok hB hD Try.func47 hb1 (by kernel_rfl) hb2 hb3 (rs := [.tmp 2]) (by kernel_rfl) (by decide) ?_ ?_
  · intro args x h
    unfold plain rValueG at h
    split at h <;> simp_all
  · intro args r hr
    unfold plain rValueG at hr
    split at hr
    case h_2 => cases hr
    rename_i s
    split at hr
    case isFalse => cases hr
    rename_i hc
    simp only [Option.map_some, Option.some.injEq] at hr
    subst hr
    unfold sc_ref18_value
    have b0 := (s.getD 0 0).toNat_lt
    have b1 := (s.getD 1 0).toNat_lt
    have b2 := (s.getD 2 0).toNat_lt
    have b3 := (s.getD 3 0).toNat_lt
    simp +contextual (maxSteps := 4000000) only [go_sem, Nat.reduceAdd, Nat.reduceSub, Nat.reduceMul, Nat.reduceEqDiff, Nat.reduceLeDiff, Nat.reduceLT, Nat.reduceBEq, Int.reduceLE, Int.reduceLT, Int.reduceToNat, Int.reduceNeg, Int.reduceAdd, Int.reduceSub, Int.reduceMul, ↓reduceIte]
    refine ⟨by omega, by omega, by omega, by omega, by omega, by omega, by omega, by omega, by omega, by omega, ?_⟩
    unfold num4; omega

def rAreaG_enc : (List Bs) × (List Wr) × (Bool) × (Bool) × (Int) → List V := fun ⟨ss, cs, f, g, a⟩ => [.agg [.s (.list 1 (encs strE ss) f), .s (.list 2 (encs wrE cs) g)], .c (.s (.int .i64 a))]
theorem rAreaG_inj : ∀ x y, rAreaG_enc x = rAreaG_enc y → x = y := by
  rintro ⟨ss, cs, f, g, a⟩ ⟨ss2, cs2, f2, g2, a2⟩ h
  simp only [rAreaG_enc, List.cons.injEq, V.c.injEq, V.agg.injEq, C.s.injEq, S.list.injEq, S.str.injEq, S.int.injEq, S.bool.injEq, S.fn.injEq, S.cref.injEq, strE_inj, true_and, and_true, wrE_inj] at h
  simp_all
noncomputable def rAreaG : List V → Option (V) := specE rAreaG_enc (fun ⟨ss, cs, f, g, a⟩ => (1 ≤ ss.length ∧ ss.length ≤ 300) ∧ 0 ≤ a ∧ a < 4294967296) (fun ⟨ss, cs, f, g, a⟩ => .tup [.inl (.s (.int .i64 (fromN ss.length a.toNat : Nat))), .inl (.s (.int .i64 (halfN ss.length : Nat)))])
theorem rAreaG_eq {ss : List Bs} {cs : List Wr} {f : Bool} {g : Bool} {a : Int} [Decidable ((1 ≤ ss.length ∧ ss.length ≤ 300) ∧ 0 ≤ a ∧ a < 4294967296)] : rAreaG [.agg [.s (.list 1 (encs strE ss) f), .s (.list 2 (encs wrE cs) g)], .c (.s (.int .i64 a))] = if (1 ≤ ss.length ∧ ss.length ≤ 300) ∧ 0 ≤ a ∧ a < 4294967296 then some (.tup [.inl (.s (.int .i64 (fromN ss.length a.toNat : Nat))), .inl (.s (.int .i64 (halfN ss.length : Nat)))]) else none := specE_eq rAreaG_inj (ss, cs, f, g, a)
theorem rAreaG_call {ss : List Bs} {cs : List Wr} {f : Bool} {g : Bool} {a : Int} {gt : Bool} {K : V → Prop} : callE rAreaG [.agg [.s (.list 1 (encs strE ss) f), .s (.list 2 (encs wrE cs) g)], .c (.s (.int .i64 a))] gt K = ((gt = true → (1 ≤ ss.length ∧ ss.length ≤ 300) ∧ 0 ≤ a ∧ a < 4294967296) ∧ bindV (ifV gt (.tup [.inl (.s (.int .i64 (fromN ss.length a.toNat : Nat))), .inl (.s (.int .i64 (halfN ss.length : Nat)))])) K) := by
  have := Classical.propDecidable ((1 ≤ ss.length ∧ ss.length ≤ 300) ∧ 0 ≤ a ∧ a < 4294967296)
  exact callE_of rAreaG_eq
theorem rAreaG_callo {ss : List Bs} {cs : List Wr} {f : Bool} {g : Bool} {a : Int} {m : Nat → Option Ab.Obj} {locs : List Nat} {K : V → (Nat → Option Ab.Obj) → Prop} : callO rAreaG (some [.agg [.s (.list 1 (encs strE ss) f), .s (.list 2 (encs wrE cs) g)], .c (.s (.int .i64 a))]) m locs K = (((1 ≤ ss.length ∧ ss.length ≤ 300) ∧ 0 ≤ a ∧ a < 4294967296) ∧ K (.tup [.inl (.s (.int .i64 (fromN ss.length a.toNat : Nat))), .inl (.s (.int .i64 (halfN ss.length : Nat)))]) (sealW m locs (.tup [.inl (.s (.int .i64 (fromN ss.length a.toNat : Nat))), .inl (.s (.int .i64 (halfN ss.length : Nat)))]))) := by
  have := Classical.propDecidable ((1 ≤ ss.length ∧ ss.length ≤ 300) ∧ 0 ≤ a ∧ a < 4294967296)
  exact callO_of rAreaG_eq
attribute [go_sem] rAreaG_call rAreaG_callo

def sc_ref18_Area : SC := .seq (.reg [⟨some 2, .box 2, [.t 0], none⟩,
⟨some 4, .mv, [.k (.c (.s (.int .i64 0)))], none⟩,
⟨some 5, .mv, [.k (.c (.s (.int .i64 0)))], none⟩]) (.seq (.reg [⟨some 7, .fadr 0, [.t 2], none⟩,
⟨some 8, .load 1 false, [.t 7], none⟩,
⟨some 9, .len false, [.t 8], none⟩,
⟨some 10, .bin .sub, [.t 9, .k (.c (.s (.int .i64 1)))], none⟩,
⟨some 11, .bin .quo, [.t 10, .k (.c (.s (.int .i64 2)))], none⟩,
⟨some 6, .mv, [.t 11], none⟩]) (.seq (.seq (.reg [⟨some 12, .mv, [.t 1], none⟩,
⟨some 13, .bin .rem, [.t 12, .k (.c (.s (.int .i64 2)))], none⟩,
⟨some 14, .bin .eql, [.t 13, .k (.c (.s (.int .i64 0)))], none⟩]) (.cond (.t 14) (.seq (.reg [⟨some 15, .mv, [.t 6], none⟩,
⟨some 4, .mv, [.k (.c (.s (.int .i64 1)))], none⟩,
⟨some 5, .mv, [.t 15], none⟩]) (.ret)) (.skip))) (.seq (.reg [⟨some 16, .mv, [.t 6], none⟩,
⟨some 17, .bin .add, [.k (.c (.s (.int .i64 1))), .t 16], none⟩,
⟨some 18, .mv, [.t 6], none⟩,
⟨some 4, .mv, [.t 17], none⟩,
⟨some 5, .mv, [.t 18], none⟩]) (.ret))))
noncomputable def G_ref18_Area : FuncId → Ab.Spec := noS
theorem G_ref18_Area_ok : ∀ f, Contract Try.prog f (G_ref18_Area f) := (noS_ok _)
set_option maxHeartbeats 16000000 in
set_option maxRecDepth 1000000 in
set_option linter.unusedSimpArgs false in
set_option linter.unusedVariables false in
theorem contract_ref18_Area : Contract Try.prog 49 (plain rAreaG) := by
  have hb : ∃ c, Try.f49.body = some c ∧ codeOk 19 c = true ∧ cCode Try.prog c = sc_ref18_Area := ⟨_, rfl, by kernel_rfl, by kernel_rfl⟩
  obtain ⟨c, hb1, hb2, hb3⟩ := hb
  refine contract_of (n := 2) G_ref18_Area_ok hB hD Try.func49 hb1 (by kernel_rfl) hb2 hb3 (rs := [.tmp 4, .tmp 5]) (by kernel_rfl) (by decide) ?_ ?_
  · intro args x h
    obtain ⟨y, hy, -⟩ := Option.map_eq_some_iff.1 h
    obtain ⟨⟨ss, cs, f, g, a⟩, rfl, -⟩ := specE_some hy
    rfl
  · intro args r hr
    obtain ⟨y, hy, rfl⟩ := Option.map_eq_some_iff.1 hr
    obtain ⟨⟨ss, cs, f, g, a⟩, rfl, hc, rfl⟩ := specE_some hy
    clear hr hy
    have hc : (1 ≤ ss.length ∧ ss.length ≤ 300) ∧ 0 ≤ a ∧ a < 4294967296 := hc
    change awp _ _ (postQ _ (.v (.tup [.inl (.s (.int .i64 (fromN ss.length a.toNat : Nat))), .inl (.s (.int .i64 (halfN ss.length : Nat)))]))) _
    unfold rAreaG_enc sc_ref18_Area
    obtain ⟨k, rfl⟩ : ∃ k : Nat, a = k := ⟨a.toNat, by omega⟩
    have eh : ((ss.length : Int) - 1) / 2 = (halfN ss.length : Nat) := by unfold halfN; omega
    have hh : halfN ss.length ≤ 150 := by unfold halfN; omega
    have ef : (fromN ss.length k : Int) = 1 + (k : Int) % 2 * (halfN ss.length : Nat) := by unfold fromN; rw [Int.natCast_add, Int.natCast_mul]; rfl
    simp +contextual (maxSteps := 4000000) only [eh, go_sem, Nat.reduceAdd, Nat.reduceSub, Nat.reduceMul, Nat.reduceEqDiff, Nat.reduceLeDiff, Nat.reduceLT, Nat.reduceBEq, Int.reduceLE, Int.reduceLT, Int.reduceToNat, Int.reduceNeg, Int.reduceAdd, Int.reduceSub, Int.reduceMul, ↓reduceIte]
    rw [ef]
    refine ⟨by omega, by omega, fun h => by rw [h]; omega, fun h => ⟨by omega, ?_⟩⟩
    rw [show (k : Int) % 2 = 1 by omega]; omega

def rMarkG : List V → Option V
  | [.c (.s (.int .i64 n))] => if 0 ≤ n ∧ n < 4294967296 then some (.c (.s (.str (markS n.toNat)))) else none
  | _ => none
theorem rMarkG_call {n : Int} {gt : Bool} {K : V → Prop} : callE rMarkG [.c (.s (.int .i64 n))] gt K = ((gt = true → 0 ≤ n ∧ n < 4294967296) ∧ bindV (ifV gt (.c (.s (.str (markS n.toNat))))) K) := callE_of rfl
theorem rMarkG_callo {n : Int} {m : Nat → Option Ab.Obj} {locs : List Nat} {K : V → (Nat → Option Ab.Obj) → Prop} : callO rMarkG (some [.c (.s (.int .i64 n))]) m locs K = ((0 ≤ n ∧ n < 4294967296) ∧ K (.c (.s (.str (markS n.toNat)))) (sealW m locs (.c (.s (.str (markS n.toNat)))))) := callO_of rfl
attribute [go_sem] rMarkG_call rMarkG_callo

def sc_ref18_Mark : SC := .seq (.reg [⟨some 2, .mv, [.k (.c (.s (.str [])))], none⟩]) (.seq (.seq (.reg [⟨some 3, .mv, [.t 0], none⟩,
⟨some 4, .bin .eql, [.t 3, .k (.c (.s (.int .i64 0)))], none⟩]) (.cond (.t 4) (.seq (.reg [⟨some 5, .call 57, [.k (.c (.s (.str [])))], none⟩,
⟨some 2, .mv, [.t 5], none⟩]) (.ret)) (.skip))) (.seq (.reg [⟨some 6, .mv, [.t 0], none⟩,
⟨some 7, .call 76, [.t 6], none⟩,
⟨some 8, .bin .add, [.k (.c (.s (.str [83]))), .t 7], none⟩,
⟨some 9, .call 57, [.t 8], none⟩,
⟨some 2, .mv, [.t 9], none⟩]) (.ret)))
noncomputable def G_ref18_Mark : FuncId → Ab.Spec := addS (addS (noS) 57 (plain rFillG)) 76 (plain rFourG)
theorem G_ref18_Mark_ok : ∀ f, Contract Try.prog f (G_ref18_Mark f) := (addS_ok (addS_ok (noS_ok _) contract_ref18_Fill) contract_ref18_four)
theorem G48_57 : G_ref18_Mark 57 = plain rFillG := by simp [G_ref18_Mark, addS]
theorem G48_76 : G_ref18_Mark 76 = plain rFourG := by simp [G_ref18_Mark, addS]
set_option maxHeartbeats 16000000 in
set_option maxRecDepth 1000000 in
set_option linter.unusedSimpArgs false in
set_option linter.unusedVariables false in
theorem contract_ref18_Mark : Contract Try.prog 48 (plain rMarkG) := by
  have hb : ∃ c, Try.f48.body = some c ∧ codeOk 10 c = true ∧ cCode Try.prog c = sc_ref18_Mark := ⟨_, rfl, by kernel_rfl, by kernel_rfl⟩
  obtain ⟨c, hb1, hb2, hb3⟩ := hb
  refine contract_of (n := 1) G_ref18_Mark_ok hB hD Try.func48 hb1 (by kernel_rfl) hb2 hb3 (rs := [.tmp 2]) (by kernel_rfl) (by decide) ?_ ?_
  · intro args x h
    unfold plain rMarkG at h
    split at h <;> simp_all
  · intro args r hr
    unfold plain rMarkG at hr
    split at hr
    case h_2 => cases hr
    rename_i n
    split at hr
    case isFalse => cases hr
    rename_i hc
    simp only [Option.map_some, Option.some.injEq] at hr
    subst hr
    unfold sc_ref18_Mark
    obtain ⟨k, rfl⟩ : ∃ k : Nat, n = k := ⟨n.toNat, by omega⟩
    simp +contextual (maxSteps := 4000000) only [↓exT_call G48_57, ↓exT_callo G48_57, ↓exT_calloG G48_57, ↓exT_call G48_76, ↓exT_callo G48_76, ↓exT_calloG G48_76, go_sem, Nat.reduceAdd, Nat.reduceSub, Nat.reduceMul, Nat.reduceEqDiff, Nat.reduceLeDiff, Nat.reduceLT, Nat.reduceBEq, Int.reduceLE, Int.reduceLT, Int.reduceToNat, Int.reduceNeg, Int.reduceAdd, Int.reduceSub, Int.reduceMul, ↓reduceIte]
    have := four_len k
    refine ⟨fun h => ?_, fun h => ⟨hc.2, by omega, by omega, ?_⟩⟩
    · unfold markS; rw [if_pos (by omega)]
    · unfold markS; rw [if_neg (by omega)]

end Go.Proofs.Ytniioedflegdkaa

/- The document's functions on records, second part: the sectors. -/
namespace Go.Proofs.Ytniioedflegdkaa
open Go Go.Ab Go.Proofs Go.Fs
def rSectorsG_enc : (Int) × (Int) × (Bs) → List V := fun ⟨a, n, t⟩ => [.c (.s (.int .i64 a)), .agg [.s (.int .i64 n), .s (.str t)]]
theorem rSectorsG_inj : ∀ x y, rSectorsG_enc x = rSectorsG_enc y → x = y := by
  rintro ⟨a, n, t⟩ ⟨a2, n2, t2⟩ h
  simp only [rSectorsG_enc, List.cons.injEq, V.c.injEq, V.agg.injEq, C.s.injEq, S.list.injEq, S.str.injEq, S.int.injEq, S.bool.injEq, S.fn.injEq, S.cref.injEq, strE_inj, true_and, and_true] at h
  simp_all
noncomputable def rSectorsG : List V → Option (V) := specE rSectorsG_enc (fun ⟨a, n, t⟩ => (0 ≤ a ∧ a < 4294967296) ∧ (0 ≤ n ∧ n < 4294967296) ∧ t.length < 4000000) (fun ⟨a, n, t⟩ => .c (.s (.list 1 (encs strE (secs a.toNat ⟨n, t⟩)) false)))
theorem rSectorsG_eq {a : Int} {n : Int} {t : Bs} [Decidable ((0 ≤ a ∧ a < 4294967296) ∧ (0 ≤ n ∧ n < 4294967296) ∧ t.length < 4000000)] : rSectorsG [.c (.s (.int .i64 a)), .agg [.s (.int .i64 n), .s (.str t)]] = if (0 ≤ a ∧ a < 4294967296) ∧ (0 ≤ n ∧ n < 4294967296) ∧ t.length < 4000000 then some (.c (.s (.list 1 (encs strE (secs a.toNat ⟨n, t⟩)) false))) else none := specE_eq rSectorsG_inj (a, n, t)
theorem rSectorsG_call {a : Int} {n : Int} {t : Bs} {gt : Bool} {K : V → Prop} : callE rSectorsG [.c (.s (.int .i64 a)), .agg [.s (.int .i64 n), .s (.str t)]] gt K = ((gt = true → (0 ≤ a ∧ a < 4294967296) ∧ (0 ≤ n ∧ n < 4294967296) ∧ t.length < 4000000) ∧ bindV (ifV gt (.c (.s (.list 1 (encs strE (secs a.toNat ⟨n, t⟩)) false)))) K) := by
  have := Classical.propDecidable ((0 ≤ a ∧ a < 4294967296) ∧ (0 ≤ n ∧ n < 4294967296) ∧ t.length < 4000000)
  exact callE_of rSectorsG_eq
theorem rSectorsG_callo {a : Int} {n : Int} {t : Bs} {m : Nat → Option Ab.Obj} {locs : List Nat} {K : V → (Nat → Option Ab.Obj) → Prop} : callO rSectorsG (some [.c (.s (.int .i64 a)), .agg [.s (.int .i64 n), .s (.str t)]]) m locs K = (((0 ≤ a ∧ a < 4294967296) ∧ (0 ≤ n ∧ n < 4294967296) ∧ t.length < 4000000) ∧ K (.c (.s (.list 1 (encs strE (secs a.toNat ⟨n, t⟩)) false))) (sealW m locs (.c (.s (.list 1 (encs strE (secs a.toNat ⟨n, t⟩)) false))))) := by
  have := Classical.propDecidable ((0 ≤ a ∧ a < 4294967296) ∧ (0 ≤ n ∧ n < 4294967296) ∧ t.length < 4000000)
  exact callO_of rSectorsG_eq
attribute [go_sem] rSectorsG_call rSectorsG_callo

def sc_ref18_Sectors : SC := .seq (.reg [⟨some 3, .box 2, [.t 1], none⟩,
⟨some 4, .mv, [.k (.c (.s (.list 0 [] true)))], none⟩]) (.seq (.regD [⟨some 8, .mv, [.t 0], none⟩,
⟨some 9, .call 76, [.t 8], none⟩,
⟨some 10, .bin .add, [.k (.c (.s (.str [72]))), .t 9], none⟩,
⟨some 11, .fadr 0, [.t 3], none⟩,
⟨some 12, .load 1 false, [.t 11], none⟩,
⟨some 13, .call 76, [.t 12], none⟩,
⟨some 14, .bin .add, [.t 10, .t 13], none⟩,
⟨some 15, .fadr 1, [.t 3], none⟩,
⟨some 16, .load 1 false, [.t 15], none⟩,
⟨some 17, .len true, [.t 16], none⟩,
⟨some 18, .call 76, [.t 17], none⟩,
⟨some 19, .bin .add, [.t 14, .t 18], none⟩,
⟨some 20, .call 57, [.t 19], none⟩,
⟨some 21, .bslice 1 1 [.str []] [0], [.t 20], none⟩,
⟨some 5, .mv, [.t 21], none⟩] [(1, 3), (1, 4), (1, 7), (5, 7), (1, 8), (5, 8), (1, 9), (5, 9)]) (.seq (.seq (.reg [⟨some 6, .mv, [.k (.c (.s (.int .i64 0)))], none⟩]) (.block 0 (.loop (.seq (.seq (.reg [⟨some 22, .mv, [.t 6], none⟩,
⟨some 23, .fadr 1, [.t 3], none⟩,
⟨some 24, .load 1 false, [.t 23], none⟩,
⟨some 25, .len true, [.t 24], none⟩,
⟨some 26, .bin .lss, [.t 22, .t 25], none⟩]) (.cond (.t 26) (.skip) (.exit 0))) (.seq (.block 1 (.seq (.reg [⟨some 29, .mv, [.t 6], none⟩,
⟨some 30, .bin .add, [.t 29, .k (.c (.s (.int .i64 31)))], none⟩,
⟨some 7, .mv, [.t 30], none⟩]) (.seq (.seq (.reg [⟨some 31, .mv, [.t 7], none⟩,
⟨some 32, .fadr 1, [.t 3], none⟩,
⟨some 33, .load 1 false, [.t 32], none⟩,
⟨some 34, .len true, [.t 33], none⟩,
⟨some 35, .bin .gtr, [.t 31, .t 34], none⟩]) (.cond (.t 35) (.reg [⟨some 36, .fadr 1, [.t 3], none⟩,
⟨some 37, .load 1 false, [.t 36], none⟩,
⟨some 38, .len true, [.t 37], none⟩,
⟨some 7, .mv, [.t 38], none⟩]) (.skip))) (.reg [⟨some 39, .mv, [.t 5], none⟩,
⟨some 40, .fadr 1, [.t 3], none⟩,
⟨some 41, .load 1 false, [.t 40], none⟩,
⟨some 42, .mv, [.t 6], none⟩,
⟨some 43, .mv, [.t 7], none⟩,
⟨some 44, .slcS true true, [.t 41, .t 42, .t 43], none⟩,
⟨some 45, .bin .add, [.k (.c (.s (.str [66]))), .t 44], none⟩,
⟨some 46, .call 57, [.t 45], none⟩,
⟨some 47, .bslice 1 1 [.str []] [0], [.t 46], none⟩,
⟨some 48, .append false 1 16, [.t 39, .t 47], none⟩,
⟨some 5, .mv, [.t 48], none⟩])))) (.reg [⟨some 27, .mv, [.t 6], none⟩,
⟨some 28, .bin .add, [.t 27, .k (.c (.s (.int .i64 31)))], none⟩,
⟨some 6, .mv, [.t 28], none⟩])))))) (.seq (.reg [⟨some 49, .mv, [.t 5], none⟩,
⟨some 4, .mv, [.t 49], none⟩]) (.ret))))
noncomputable def G_ref18_Sectors : FuncId → Ab.Spec := addS (addS (noS) 76 (plain rFourG)) 57 (plain rFillG)
theorem G_ref18_Sectors_ok : ∀ f, Contract Try.prog f (G_ref18_Sectors f) := (addS_ok (addS_ok (noS_ok _) contract_ref18_four) contract_ref18_Fill)
theorem G53_76 : G_ref18_Sectors 76 = plain rFourG := by simp [G_ref18_Sectors, addS]
theorem G53_57 : G_ref18_Sectors 57 = plain rFillG := by simp [G_ref18_Sectors, addS]
set_option maxHeartbeats 16000000 in
set_option maxRecDepth 1000000 in
set_option linter.unusedSimpArgs false in
set_option linter.unusedVariables false in
theorem contract_ref18_Sectors : Contract Try.prog 53 (plain rSectorsG) := by
  have hb : ∃ c, Try.f53.body = some c ∧ codeOk 50 c = true ∧ cCode Try.prog c = sc_ref18_Sectors := ⟨_, rfl, by kernel_rfl, by kernel_rfl⟩
  obtain ⟨c, hb1, hb2, hb3⟩ := hb
  refine contract_of (n := 2) G_ref18_Sectors_ok hB hD Try.func53 hb1 (by kernel_rfl) hb2 hb3 (rs := [.tmp 4]) (by kernel_rfl) (by decide) ?_ ?_
  · intro args x h
    obtain ⟨y, hy, -⟩ := Option.map_eq_some_iff.1 h
    obtain ⟨⟨a, n, t⟩, rfl, -⟩ := specE_some hy
    rfl
  · intro args r hr
    obtain ⟨y, hy, rfl⟩ := Option.map_eq_some_iff.1 hr
    obtain ⟨⟨a, n, t⟩, rfl, hc, rfl⟩ := specE_some hy
    clear hr hy
    have hc : (0 ≤ a ∧ a < 4294967296) ∧ (0 ≤ n ∧ n < 4294967296) ∧ t.length < 4000000 := hc
    change awp _ _ (postQ _ (.v (.c (.s (.list 1 (encs strE (secs a.toNat ⟨n, t⟩)) false))))) _
    unfold rSectorsG_enc sc_ref18_Sectors
    obtain ⟨ha, hn, ht⟩ := hc
    have hb : secs a.toNat ⟨n, t⟩ = fill (72 :: (four a.toNat ++ four n.toNat ++ four t.length)) :: (chunk31 t).map fun x => fill (66 :: x) := by
      rfl
    have htn : ((t.length : Int)).toNat = t.length := by omega
    generalize hH : fill (72 :: (four a.toNat ++ four n.toNat ++ four t.length)) = H at *
    rw [hb]
    simp +contextual (maxSteps := 4000000) only [↓exT_call G53_76, ↓exT_callo G53_76, ↓exT_calloG G53_76, ↓exT_call G53_57, ↓exT_callo G53_57, ↓exT_calloG G53_57, of72, four_len, hH, htn, go_sem, Nat.reduceAdd, Nat.reduceSub, Nat.reduceMul, Nat.reduceEqDiff, Nat.reduceLeDiff, Nat.reduceLT, Nat.reduceBEq, Int.reduceLE, Int.reduceLT, Int.reduceToNat, Int.reduceNeg, Int.reduceAdd, Int.reduceSub, Int.reduceMul, ↓reduceIte]
    repeat (refine ⟨by omega, ?_⟩)
    refine awp_loopM (α := List Bs × Bs) (fun y => [(3, .c (.ptr 3 0)), (5, .c (.own 21 (y.1.length + 1))), (6, .c (.s (.int .i64 (31 * y.1.length))))])
      (fun y => [(3, .box [.s (.int .i64 n), .s (.str t)]), (21, .row 1 (encs strE (H :: y.1.map fun x => fill (66 :: x))))]) (fun y => y.2.length) ([], t) (fun y => chunk31 t = y.1 ++ chunk31 y.2 ∧ y.2 = t.drop (31 * y.1.length)) ⟨rfl, rfl⟩ ?_ ?_
    · refine Weak.meets ?_
      simp +contextual (maxSteps := 4000000) only [↓exT_call G53_76, ↓exT_callo G53_76, ↓exT_calloG G53_76, ↓exT_call G53_57, ↓exT_callo G53_57, ↓exT_calloG G53_57, go_sem, Nat.reduceAdd, Nat.reduceSub, Nat.reduceMul, Nat.reduceEqDiff, Nat.reduceLeDiff, Nat.reduceLT, Nat.reduceBEq, Int.reduceLE, Int.reduceLT, Int.reduceToNat, Int.reduceNeg, Int.reduceAdd, Int.reduceSub, Int.reduceMul, ↓reduceIte]
      exact ⟨rfl, rfl⟩
    rintro ⟨dn, r⟩ ⟨h1, h2⟩
    simp only at h1 h2
    have hl : (dn.map fun x => fill (66 :: x)).length = dn.length := by simp
    have hl2 : ((dn ++ [r.take 31]).map fun x => fill (66 :: x)).length = dn.length + 1 := by simp
    have hcat : encs strE (H :: dn.map fun x => fill (66 :: x)) ++ [[.str (fill (66 :: r.take 31))]] = encs strE (H :: (dn ++ [r.take 31]).map fun x => fill (66 :: x)) := by
      rw [List.map_append, ← List.cons_append, encs_append]; rfl
    have hrl : r.length = t.length - 31 * dn.length := by rw [h2, List.length_drop]
    by_cases hr : r = []
    · subst hr
      rw [chunk_nil, List.append_nil] at h1
      have hlt : ¬ (31 * (dn.length : Int)) < (t.length : Int) := by rw [List.length_nil] at hrl; omega
      simp +contextual (maxSteps := 4000000) only [↓exT_call G53_76, ↓exT_callo G53_76, ↓exT_calloG G53_76, ↓exT_call G53_57, ↓exT_callo G53_57, ↓exT_calloG G53_57, hlt, h1, hl, go_sem, Nat.reduceAdd, Nat.reduceSub, Nat.reduceMul, Nat.reduceEqDiff, Nat.reduceLeDiff, Nat.reduceLT, Nat.reduceBEq, Int.reduceLE, Int.reduceLT, Int.reduceToNat, Int.reduceNeg, Int.reduceAdd, Int.reduceSub, Int.reduceMul, ↓reduceIte]
    · have hc := chunk_ne hr
      have hl0 : r.length ≠ 0 := fun h => hr (List.length_eq_zero_iff.1 h)
      have hlt : (31 * (dn.length : Int)) < (t.length : Int) := by omega
      have lt : (r.take 31).length ≤ 31 := by simp; omega
      by_cases hle : (t.length : Int) < 31 * (dn.length : Int) + 31
      · have hsl : (t.take t.length).drop (31 * (dn.length : Int)).toNat = r.take 31 := by
          rw [List.take_length, show (31 * (dn.length : Int)).toNat = 31 * dn.length by omega, ← h2, List.take_of_length_le (by omega)]
        simp (maxSteps := 4000000) only [↓exT_call G53_76, ↓exT_callo G53_76, ↓exT_calloG G53_76, ↓exT_call G53_57, ↓exT_callo G53_57, ↓exT_calloG G53_57, hlt, hle, hsl, of66, hcat, hl, hl2, go_sem, Nat.reduceAdd, Nat.reduceSub, Nat.reduceMul, Nat.reduceEqDiff, Nat.reduceLeDiff, Nat.reduceLT, Nat.reduceBEq, Int.reduceLE, Int.reduceLT, Int.reduceToNat, Int.reduceNeg, Int.reduceAdd, Int.reduceSub, Int.reduceMul, ↓reduceIte]
        refine ⟨by omega, by omega, by omega, by omega, by omega, by omega, (dn ++ [r.take 31], r.drop 31), ⟨by rw [h1, hc]; simp, ?_⟩, by simp; omega, ⟨by simp, by simp; omega⟩, rfl⟩
        rw [h2, List.drop_drop]; simp only [List.length_append, List.length_cons, List.length_nil]; congr 1
      · have hsl : (t.take (31 * (dn.length : Int) + 31).toNat).drop (31 * (dn.length : Int)).toNat = r.take 31 := by
          rw [show (31 * (dn.length : Int) + 31).toNat = 31 * dn.length + 31 by omega, show (31 * (dn.length : Int)).toNat = 31 * dn.length by omega, h2, List.drop_take]
          congr 1; omega
        simp (maxSteps := 4000000) only [↓exT_call G53_76, ↓exT_callo G53_76, ↓exT_calloG G53_76, ↓exT_call G53_57, ↓exT_callo G53_57, ↓exT_calloG G53_57, hlt, hle, hsl, of66, hcat, hl, hl2, go_sem, Nat.reduceAdd, Nat.reduceSub, Nat.reduceMul, Nat.reduceEqDiff, Nat.reduceLeDiff, Nat.reduceLT, Nat.reduceBEq, Int.reduceLE, Int.reduceLT, Int.reduceToNat, Int.reduceNeg, Int.reduceAdd, Int.reduceSub, Int.reduceMul, ↓reduceIte]
        refine ⟨by omega, by omega, by omega, by omega, by omega, by omega, (dn ++ [r.take 31], r.drop 31), ⟨by rw [h1, hc]; simp, ?_⟩, by simp; omega, ⟨by simp, by simp; omega⟩, rfl⟩
        rw [h2, List.drop_drop]; simp only [List.length_append, List.length_cons, List.length_nil]; congr 1

end Go.Proofs.Ytniioedflegdkaa

/- The document's functions on records, third part: a record. -/
namespace Go.Proofs.Ytniioedflegdkaa
open Go Go.Ab Go.Proofs Go.Fs
def rOneG_enc : (List Bs) × (List Wr) × (Bool) × (Bool) × (Int) × (Int) × (Int) → List V := fun ⟨ss, cs, f, g, gn, a, e⟩ => [.agg [.s (.list 1 (encs strE ss) f), .s (.list 2 (encs wrE cs) g)], .c (.s (.int .i64 gn)), .c (.s (.int .i64 a)), .c (.s (.int .i64 e))]
theorem rOneG_inj : ∀ x y, rOneG_enc x = rOneG_enc y → x = y := by
  rintro ⟨ss, cs, f, g, gn, a, e⟩ ⟨ss2, cs2, f2, g2, gn2, a2, e2⟩ h
  simp only [rOneG_enc, List.cons.injEq, V.c.injEq, V.agg.injEq, C.s.injEq, S.list.injEq, S.str.injEq, S.int.injEq, S.bool.injEq, S.fn.injEq, S.cref.injEq, strE_inj, true_and, and_true, wrE_inj] at h
  simp_all
noncomputable def rOneG : List V → Option (V) := specE rOneG_enc (fun ⟨ss, cs, f, g, gn, a, e⟩ => rightD ⟨ss, cs⟩ = true ∧ (0 ≤ gn ∧ gn < 4294967296) ∧ 0 ≤ a ∧ 1 ≤ e ∧ a + e ≤ ss.length) (fun ⟨ss, cs, f, g, gn, a, e⟩ => .tup [.inr [.s (.int .i64 (oneD ⟨ss, cs⟩ gn a (a + e)).1.num), .s (.str (oneD ⟨ss, cs⟩ gn a (a + e)).1.text)], .inl (.s (.int .i64 (oneD ⟨ss, cs⟩ gn a (a + e)).2))])
theorem rOneG_eq {ss : List Bs} {cs : List Wr} {f : Bool} {g : Bool} {gn : Int} {a : Int} {e : Int} [Decidable (rightD ⟨ss, cs⟩ = true ∧ (0 ≤ gn ∧ gn < 4294967296) ∧ 0 ≤ a ∧ 1 ≤ e ∧ a + e ≤ ss.length)] : rOneG [.agg [.s (.list 1 (encs strE ss) f), .s (.list 2 (encs wrE cs) g)], .c (.s (.int .i64 gn)), .c (.s (.int .i64 a)), .c (.s (.int .i64 e))] = if rightD ⟨ss, cs⟩ = true ∧ (0 ≤ gn ∧ gn < 4294967296) ∧ 0 ≤ a ∧ 1 ≤ e ∧ a + e ≤ ss.length then some (.tup [.inr [.s (.int .i64 (oneD ⟨ss, cs⟩ gn a (a + e)).1.num), .s (.str (oneD ⟨ss, cs⟩ gn a (a + e)).1.text)], .inl (.s (.int .i64 (oneD ⟨ss, cs⟩ gn a (a + e)).2))]) else none := specE_eq rOneG_inj (ss, cs, f, g, gn, a, e)
theorem rOneG_call {ss : List Bs} {cs : List Wr} {f : Bool} {g : Bool} {gn : Int} {a : Int} {e : Int} {gt : Bool} {K : V → Prop} : callE rOneG [.agg [.s (.list 1 (encs strE ss) f), .s (.list 2 (encs wrE cs) g)], .c (.s (.int .i64 gn)), .c (.s (.int .i64 a)), .c (.s (.int .i64 e))] gt K = ((gt = true → rightD ⟨ss, cs⟩ = true ∧ (0 ≤ gn ∧ gn < 4294967296) ∧ 0 ≤ a ∧ 1 ≤ e ∧ a + e ≤ ss.length) ∧ bindV (ifV gt (.tup [.inr [.s (.int .i64 (oneD ⟨ss, cs⟩ gn a (a + e)).1.num), .s (.str (oneD ⟨ss, cs⟩ gn a (a + e)).1.text)], .inl (.s (.int .i64 (oneD ⟨ss, cs⟩ gn a (a + e)).2))])) K) := by
  have := Classical.propDecidable (rightD ⟨ss, cs⟩ = true ∧ (0 ≤ gn ∧ gn < 4294967296) ∧ 0 ≤ a ∧ 1 ≤ e ∧ a + e ≤ ss.length)
  exact callE_of rOneG_eq
theorem rOneG_callo {ss : List Bs} {cs : List Wr} {f : Bool} {g : Bool} {gn : Int} {a : Int} {e : Int} {m : Nat → Option Ab.Obj} {locs : List Nat} {K : V → (Nat → Option Ab.Obj) → Prop} : callO rOneG (some [.agg [.s (.list 1 (encs strE ss) f), .s (.list 2 (encs wrE cs) g)], .c (.s (.int .i64 gn)), .c (.s (.int .i64 a)), .c (.s (.int .i64 e))]) m locs K = ((rightD ⟨ss, cs⟩ = true ∧ (0 ≤ gn ∧ gn < 4294967296) ∧ 0 ≤ a ∧ 1 ≤ e ∧ a + e ≤ ss.length) ∧ K (.tup [.inr [.s (.int .i64 (oneD ⟨ss, cs⟩ gn a (a + e)).1.num), .s (.str (oneD ⟨ss, cs⟩ gn a (a + e)).1.text)], .inl (.s (.int .i64 (oneD ⟨ss, cs⟩ gn a (a + e)).2))]) (sealW m locs (.tup [.inr [.s (.int .i64 (oneD ⟨ss, cs⟩ gn a (a + e)).1.num), .s (.str (oneD ⟨ss, cs⟩ gn a (a + e)).1.text)], .inl (.s (.int .i64 (oneD ⟨ss, cs⟩ gn a (a + e)).2))]))) := by
  have := Classical.propDecidable (rightD ⟨ss, cs⟩ = true ∧ (0 ≤ gn ∧ gn < 4294967296) ∧ 0 ≤ a ∧ 1 ≤ e ∧ a + e ≤ ss.length)
  exact callO_of rOneG_eq
attribute [go_sem] rOneG_call rOneG_callo

def sc_ref18_one : SC := .seq (.reg [⟨some 4, .box 2, [.t 0], none⟩,
⟨some 8, .alloc [.int .i64 0, .str []], [], none⟩,
⟨some 9, .mv, [.k (.c (.s (.int .i64 0)))], none⟩]) (.seq (.reg [⟨some 17, .load 2 true, [.t 4], none⟩,
⟨some 18, .mv, [.t 2], none⟩,
⟨some 19, .call 46, [.t 17, .t 18], none⟩,
⟨some 10, .mv, [.t 19], none⟩]) (.seq (.reg [⟨some 20, .mv, [.t 10], none⟩,
⟨some 21, .slcS true true, [.t 20, .k (.c (.s (.int .i64 5))), .k (.c (.s (.int .i64 9)))], none⟩,
⟨some 22, .call 47, [.t 21], none⟩,
⟨some 23, .build [.int .i64 0, .str []] [(0, 1)], [.t 22], none⟩,
⟨some 11, .alloc [.int .i64 0, .str []], [], none⟩,
⟨none, .store 2 true, [.t 11, .t 23], none⟩]) (.seq (.reg [⟨some 24, .mv, [.t 10], none⟩,
⟨some 25, .slcS true true, [.t 24, .k (.c (.s (.int .i64 9))), .k (.c (.s (.int .i64 13)))], none⟩,
⟨some 26, .call 47, [.t 25], none⟩,
⟨some 12, .mv, [.t 26], none⟩]) (.seq (.seq (.reg [⟨some 27, .mv, [.t 12], none⟩,
⟨some 28, .bin .gtr, [.t 27, .k (.c (.s (.int .i64 1200)))], none⟩,
⟨some 29, .mv, [.t 28], none⟩,
⟨some 30, .fadr 0, [.t 11], some (29, false)⟩,
⟨some 31, .load 1 false, [.t 30], some (29, false)⟩,
⟨some 32, .bin .lss, [.t 31, .k (.c (.s (.int .i64 1)))], some (29, false)⟩,
⟨some 33, .pick, [.t 29, .k (.c (.s (.bool true))), .t 32], none⟩,
⟨some 34, .mv, [.t 33], none⟩,
⟨some 35, .fadr 0, [.t 11], some (34, false)⟩,
⟨some 36, .load 1 false, [.t 35], some (34, false)⟩,
⟨some 37, .bin .gtr, [.t 36, .k (.c (.s (.int .i64 2147483647)))], some (34, false)⟩,
⟨some 38, .pick, [.t 34, .k (.c (.s (.bool true))), .t 37], none⟩]) (.cond (.t 38) (.seq (.reg [⟨some 39, .build [.int .i64 0, .str []] [], [], none⟩,
⟨none, .store 2 true, [.t 8, .t 39], none⟩,
⟨some 9, .mv, [.k (.c (.s (.int .i64 0)))], none⟩]) (.ret)) (.skip))) (.seq (.reg [⟨some 13, .mv, [.k (.c (.s (.str [])))], none⟩]) (.seq (.seq (.reg [⟨some 14, .mv, [.k (.c (.s (.int .i64 1)))], none⟩]) (.block 0 (.loop (.seq (.seq (.reg [⟨some 40, .mv, [.t 14], none⟩,
⟨some 41, .mv, [.t 3], none⟩,
⟨some 42, .bin .lss, [.t 40, .t 41], none⟩,
⟨some 43, .mv, [.t 42], none⟩,
⟨some 44, .mv, [.t 13], some (43, true)⟩,
⟨some 45, .len true, [.t 44], some (43, true)⟩,
⟨some 46, .mv, [.t 12], some (43, true)⟩,
⟨some 47, .bin .lss, [.t 45, .t 46], some (43, true)⟩,
⟨some 48, .pick, [.t 43, .t 47, .k (.c (.s (.bool false)))], none⟩]) (.cond (.t 48) (.skip) (.exit 0))) (.seq (.block 1 (.reg [⟨some 51, .mv, [.t 13], none⟩,
⟨some 52, .load 2 true, [.t 4], none⟩,
⟨some 53, .mv, [.t 2], none⟩,
⟨some 54, .mv, [.t 14], none⟩,
⟨some 55, .bin .add, [.t 53, .t 54], none⟩,
⟨some 56, .call 46, [.t 52, .t 55], none⟩,
⟨some 57, .slcS true false, [.t 56, .k (.c (.s (.int .i64 1)))], none⟩,
⟨some 58, .bin .add, [.t 51, .t 57], none⟩,
⟨some 13, .mv, [.t 58], none⟩])) (.reg [⟨some 49, .mv, [.t 14], none⟩,
⟨some 50, .bin .add, [.t 49, .k (.c (.s (.int .i64 1)))], none⟩,
⟨some 14, .mv, [.t 50], none⟩])))))) (.seq (.seq (.reg [⟨some 59, .mv, [.t 13], none⟩,
⟨some 60, .len true, [.t 59], none⟩,
⟨some 61, .mv, [.t 12], none⟩,
⟨some 62, .bin .lss, [.t 60, .t 61], none⟩]) (.cond (.t 62) (.seq (.reg [⟨some 63, .build [.int .i64 0, .str []] [], [], none⟩,
⟨none, .store 2 true, [.t 8, .t 63], none⟩,
⟨some 9, .mv, [.k (.c (.s (.int .i64 0)))], none⟩]) (.ret)) (.skip))) (.seq (.reg [⟨some 64, .mv, [.t 13], none⟩,
⟨some 65, .mv, [.t 12], none⟩,
⟨some 66, .slcS false true, [.t 64, .t 65], none⟩,
⟨some 67, .fadr 1, [.t 11], none⟩,
⟨none, .store 1 false, [.t 67, .t 66], none⟩]) (.seq (.reg [⟨some 68, .mv, [.t 1], none⟩,
⟨some 69, .load 2 true, [.t 11], none⟩,
⟨some 70, .call 53, [.t 68, .t 69], none⟩,
⟨some 15, .mv, [.t 70], none⟩]) (.seq (.seq (.reg [⟨some 16, .mv, [.k (.c (.s (.int .i64 0)))], none⟩]) (.block 2 (.loop (.seq (.seq (.reg [⟨some 71, .mv, [.t 16], none⟩,
⟨some 72, .mv, [.t 15], none⟩,
⟨some 73, .len false, [.t 72], none⟩,
⟨some 74, .bin .lss, [.t 71, .t 73], none⟩]) (.cond (.t 74) (.skip) (.exit 2))) (.seq (.block 3 (.seq (.regD [⟨some 77, .load 2 true, [.t 4], none⟩,
⟨some 78, .mv, [.t 2], none⟩,
⟨some 79, .mv, [.t 16], none⟩,
⟨some 80, .bin .add, [.t 78, .t 79], none⟩,
⟨some 81, .call 46, [.t 77, .t 80], none⟩,
⟨some 82, .mv, [.t 15], none⟩,
⟨some 83, .mv, [.t 16], none⟩,
⟨some 84, .iadr 1, [.t 82, .t 83], none⟩,
⟨some 85, .load 1 false, [.t 84], none⟩,
⟨some 86, .bin .neq, [.t 81, .t 85], none⟩] [(4, 7), (4, 8)]) (.cond (.t 86) (.seq (.reg [⟨some 87, .build [.int .i64 0, .str []] [], [], none⟩,
⟨none, .store 2 true, [.t 8, .t 87], none⟩,
⟨some 9, .mv, [.k (.c (.s (.int .i64 0)))], none⟩]) (.ret)) (.skip)))) (.reg [⟨some 75, .mv, [.t 16], none⟩,
⟨some 76, .bin .add, [.t 75, .k (.c (.s (.int .i64 1)))], none⟩,
⟨some 16, .mv, [.t 76], none⟩])))))) (.seq (.reg [⟨some 88, .load 2 true, [.t 11], none⟩,
⟨some 89, .mv, [.t 15], none⟩,
⟨some 90, .len false, [.t 89], none⟩,
⟨none, .store 2 true, [.t 8, .t 88], none⟩,
⟨some 9, .mv, [.t 90], none⟩]) (.ret))))))))))))
noncomputable def G_ref18_one : FuncId → Ab.Spec := addS (addS (addS (noS) 46 (plain rReadG)) 47 (plain rValueG)) 53 (plain rSectorsG)
theorem G_ref18_one_ok : ∀ f, Contract Try.prog f (G_ref18_one f) := (addS_ok (addS_ok (addS_ok (noS_ok _) contract_ref17_Read) contract_ref18_value) contract_ref18_Sectors)
theorem G50_46 : G_ref18_one 46 = plain rReadG := by simp [G_ref18_one, addS]
theorem G50_47 : G_ref18_one 47 = plain rValueG := by simp [G_ref18_one, addS]
theorem G50_53 : G_ref18_one 53 = plain rSectorsG := by simp [G_ref18_one, addS]
set_option maxHeartbeats 16000000 in
set_option maxRecDepth 1000000 in
set_option linter.unusedSimpArgs false in
set_option linter.unusedVariables false in
theorem contract_ref18_one : Contract Try.prog 50 (plain rOneG) := by
  have hb : ∃ c, Try.f50.body = some c ∧ codeOk 91 c = true ∧ cCode Try.prog c = sc_ref18_one := ⟨_, rfl, by kernel_rfl, by kernel_rfl⟩
  obtain ⟨c, hb1, hb2, hb3⟩ := hb
  refine contract_of (n := 4) G_ref18_one_ok hB hD Try.func50 hb1 (by kernel_rfl) hb2 hb3 (rs := [.cell 8 2 true, .tmp 9]) (by kernel_rfl) (by decide) ?_ ?_
  · intro args x h
    obtain ⟨y, hy, -⟩ := Option.map_eq_some_iff.1 h
    obtain ⟨⟨ss, cs, f, g, gn, a, e⟩, rfl, -⟩ := specE_some hy
    rfl
  · intro args r hr
    obtain ⟨y, hy, rfl⟩ := Option.map_eq_some_iff.1 hr
    obtain ⟨⟨ss, cs, f, g, gn, a, e⟩, rfl, hc, rfl⟩ := specE_some hy
    clear hr hy
    have hc : rightD ⟨ss, cs⟩ = true ∧ (0 ≤ gn ∧ gn < 4294967296) ∧ 0 ≤ a ∧ 1 ≤ e ∧ a + e ≤ ss.length := hc
    change awp _ _ (postQ _ (.v (.tup [.inr [.s (.int .i64 (oneD ⟨ss, cs⟩ gn a (a + e)).1.num), .s (.str (oneD ⟨ss, cs⟩ gn a (a + e)).1.text)], .inl (.s (.int .i64 (oneD ⟨ss, cs⟩ gn a (a + e)).2))]))) _
    unfold rOneG_enc sc_ref18_one
    obtain ⟨hr, ⟨hg0, hg1⟩, ha0, hae, hel⟩ := hc
    obtain ⟨A, rfl⟩ : ∃ A : Nat, a = A := ⟨a.toNat, by omega⟩
    obtain ⟨E, rfl⟩ : ∃ E : Nat, e = E := ⟨e.toNat, by omega⟩
    obtain ⟨q1, q2, q3, -, -⟩ := (right_iff _).1 hr
    simp only at q1 q2 q3
    have c1 : ss.length < 4000000 := by omega
    have c2 : cs.length < 4000000 := by omega
    have hln : ∀ i : Nat, i < ss.length → (getS ⟨ss, cs⟩ i).length = 32 := fun i hi => getS_len hr hi
    have hod : oneD ⟨ss, cs⟩ gn A ((A : Int) + E) = oneV (oneR (getS ⟨ss, cs⟩) gn.toNat A (A + E)) := by unfold oneD; rw [show ((A : Int) + E).toNat = A + E by omega, Int.toNat_natCast]
    rw [hod]
    obtain ⟨rd, hrd⟩ : ∃ rd, getS ⟨ss, cs⟩ = rd := ⟨_, rfl⟩
    have hgs : ∀ i, getS ⟨ss, cs⟩ i = rd i := fun i => by rw [hrd]
    rw [hrd] at hln ⊢
    have hlA := hln A (by omega)
    have hA1 : (A : Int) < (ss.length : Int) := by omega
    have tA : (A : Int).toNat = A := Int.toNat_natCast A
    have hd5 : 4 ≤ (((rd A).take 9).drop 5).length := by rw [List.length_drop, List.length_take]; omega
    have hd9 : 4 ≤ (((rd A).take 13).drop 9).length := by rw [List.length_drop, List.length_take]; omega
    have hs9 : (9 : Int) ≤ ((rd A).length : Int) := by omega
    have hs13 : (13 : Int) ≤ ((rd A).length : Int) := by omega
    have v5 := num4_lt ((rd A).drop 5)
    have v9 := num4_lt ((rd A).drop 9)
    have hone : oneR rd gn.toNat A (A + E) = if 1200 < num4 ((rd A).drop 9) ∨ num4 ((rd A).drop 5) < 1 ∨ maxNum < num4 ((rd A).drop 5) ∨ A + E < A + manyN (num4 ((rd A).drop 9)) then none
      else if secs gn.toNat (recR rd A) = (List.range (manyN (num4 ((rd A).drop 9)))).map (fun i => rd (A + i)) then some (recR rd A, manyN (num4 ((rd A).drop 9))) else none := rfl
    have hrec : recR rd A = ⟨(num4 ((rd A).drop 5) : Nat), textR rd A (num4 ((rd A).drop 9))⟩ := rfl
    have hn5 : num4 (((rd A).take 9).drop 5) = num4 ((rd A).drop 5) := num4_slice (a := 5)
    have hn9 : num4 (((rd A).take 13).drop 9) = num4 ((rd A).drop 9) := num4_slice (a := 9)
    generalize num4 ((rd A).drop 5) = n5 at *
    generalize num4 ((rd A).drop 9) = n9 at *
    have em1 : manyN n9 = 1 + (n9 + 30) / 31 := rfl
    have hmn : maxNum = 2147483647 := rfl
    by_cases h1 : 1200 < n9
    case pos =>
      have h1' : 1200 < (n9 : Int) := by omega
      rw [hone, if_pos (.inl h1)]
      simp (maxSteps := 4000000) only [↓exT_call G50_46, ↓exT_callo G50_46, ↓exT_calloG G50_46, ↓exT_call G50_47, ↓exT_callo G50_47, ↓exT_calloG G50_47, ↓exT_call G50_53, ↓exT_callo G50_53, ↓exT_calloG G50_53, c1, c2, hgs, tA, hA1, hd5, hd9, hs9, hs13, hn5, hn9, h1', oneV, go_sem, Nat.reduceAdd, Nat.reduceSub, Nat.reduceMul, Nat.reduceEqDiff, Nat.reduceLeDiff, Nat.reduceLT, Nat.reduceBEq, Int.reduceLE, Int.reduceLT, Int.reduceToNat, Int.reduceNeg, Int.reduceAdd, Int.reduceSub, Int.reduceMul, ↓reduceIte]
      all_goals ((repeat' (first | with_reducible apply And.intro | intro)) <;> first | omega | (with_reducible rfl) | skip)
    by_cases h2 : n5 < 1
    case pos =>
      have h1' : ¬ 1200 < (n9 : Int) := by omega
      have h2' : (n5 : Int) < 1 := by omega
      rw [hone, if_pos (.inr (.inl h2))]
      simp (maxSteps := 4000000) only [↓exT_call G50_46, ↓exT_callo G50_46, ↓exT_calloG G50_46, ↓exT_call G50_47, ↓exT_callo G50_47, ↓exT_calloG G50_47, ↓exT_call G50_53, ↓exT_callo G50_53, ↓exT_calloG G50_53, c1, c2, hgs, tA, hA1, hd5, hd9, hs9, hs13, hn5, hn9, h1', h2', oneV, go_sem, Nat.reduceAdd, Nat.reduceSub, Nat.reduceMul, Nat.reduceEqDiff, Nat.reduceLeDiff, Nat.reduceLT, Nat.reduceBEq, Int.reduceLE, Int.reduceLT, Int.reduceToNat, Int.reduceNeg, Int.reduceAdd, Int.reduceSub, Int.reduceMul, ↓reduceIte]
      all_goals ((repeat' (first | with_reducible apply And.intro | intro)) <;> first | omega | (with_reducible rfl) | skip)
    by_cases h3 : maxNum < n5
    case pos =>
      have h1' : ¬ 1200 < (n9 : Int) := by omega
      have h2' : ¬ (n5 : Int) < 1 := by omega
      have h3' : 2147483647 < (n5 : Int) := by omega
      rw [hone, if_pos (.inr (.inr (.inl h3)))]
      simp (maxSteps := 4000000) only [↓exT_call G50_46, ↓exT_callo G50_46, ↓exT_calloG G50_46, ↓exT_call G50_47, ↓exT_callo G50_47, ↓exT_calloG G50_47, ↓exT_call G50_53, ↓exT_callo G50_53, ↓exT_calloG G50_53, c1, c2, hgs, tA, hA1, hd5, hd9, hs9, hs13, hn5, hn9, h1', h2', h3', oneV, go_sem, Nat.reduceAdd, Nat.reduceSub, Nat.reduceMul, Nat.reduceEqDiff, Nat.reduceLeDiff, Nat.reduceLT, Nat.reduceBEq, Int.reduceLE, Int.reduceLT, Int.reduceToNat, Int.reduceNeg, Int.reduceAdd, Int.reduceSub, Int.reduceMul, ↓reduceIte]
      all_goals ((repeat' (first | with_reducible apply And.intro | intro)) <;> first | omega | (with_reducible rfl) | skip)
    have h1' : ¬ 1200 < (n9 : Int) := by omega
    have h2' : ¬ (n5 : Int) < 1 := by omega
    have h3' : ¬ 2147483647 < (n5 : Int) := by omega
    simp (maxSteps := 4000000) only [↓exT_call G50_46, ↓exT_callo G50_46, ↓exT_calloG G50_46, ↓exT_call G50_47, ↓exT_callo G50_47, ↓exT_calloG G50_47, ↓exT_call G50_53, ↓exT_callo G50_53, ↓exT_calloG G50_53, c1, c2, hgs, tA, hA1, hd5, hd9, hs9, hs13, hn5, hn9, h1', h2', h3', go_sem, Nat.reduceAdd, Nat.reduceSub, Nat.reduceMul, Nat.reduceEqDiff, Nat.reduceLeDiff, Nat.reduceLT, Nat.reduceBEq, Int.reduceLE, Int.reduceLT, Int.reduceToNat, Int.reduceNeg, Int.reduceAdd, Int.reduceSub, Int.reduceMul, ↓reduceIte]
    repeat (refine ⟨by omega, ?_⟩)
    refine awp_loopM (α := Nat) (fun i => [(1, .c (.s (.int .i64 gn))), (2, .c (.s (.int .i64 A))), (3, .c (.s (.int .i64 E))), (4, .c (.ptr 4 0)), (8, .c (.ptr 8 0)), (11, .c (.ptr 11 0)), (12, .c (.s (.int .i64 n9))), (13, .c (.s (.str (joinR rd (A + 1) i)))), (14, .c (.s (.int .i64 ((i : Int) + 1))))])
      (fun i => [(4, .box [.s (.list 1 (encs strE ss) f), .s (.list 2 (encs wrE cs) g)]), (8, .box [.s (.int .i64 0), .s (.str [])]), (11, .box [.s (.int .i64 n5), .s (.str [])])]) (fun i => manyN n9 - i) 0 (fun i => i ≤ manyN n9 - 1 ∧ i + 1 ≤ E) ⟨Nat.zero_le _, by omega⟩ ?_ ?_
    · refine Weak.meets ?_
      simp (maxSteps := 4000000) only [↓exT_call G50_46, ↓exT_callo G50_46, ↓exT_calloG G50_46, ↓exT_call G50_47, ↓exT_callo G50_47, ↓exT_calloG G50_47, ↓exT_call G50_53, ↓exT_callo G50_53, ↓exT_calloG G50_53, go_sem, Nat.reduceAdd, Nat.reduceSub, Nat.reduceMul, Nat.reduceEqDiff, Nat.reduceLeDiff, Nat.reduceLT, Nat.reduceBEq, Int.reduceLE, Int.reduceLT, Int.reduceToNat, Int.reduceNeg, Int.reduceAdd, Int.reduceSub, Int.reduceMul, ↓reduceIte]
      exact ⟨rfl, rfl⟩
    rintro x ⟨hx, hxe⟩
    have hjl := joinR_len (rd := rd) (a := A + 1) (n := x) (fun i hi => hln _ (by omega))
    have hjlN : (joinR rd (A + 1) x).length < 4000000 := by omega
    by_cases hx2 : 31 * x < n9
    case pos =>
      have hx2' : ((joinR rd (A + 1) x).length : Int) < (n9 : Int) := by omega
      by_cases hx1 : x + 1 < E
      · have hx1' : (x : Int) + 1 < (E : Int) := by omega
        have hlx := hln (A + 1 + x) (by omega)
        have ecast : (A : Int) + ((x : Int) + 1) = ((A + 1 + x : Nat) : Int) := by omega
        have tB : ((A + 1 + x : Nat) : Int).toNat = A + 1 + x := Int.toNat_natCast _
        have hB : ((A + 1 + x : Nat) : Int) < (ss.length : Int) := by omega
        have hsx : (1 : Int) ≤ ((rd (A + 1 + x)).length : Int) := by omega
        have hj := joinR_succ rd (A + 1) x
        have hdl : ((rd (A + 1 + x)).drop 1).length = 31 := by rw [List.length_drop]; omega
        have hx3 : ((31 * x : Nat) : Int) < (n9 : Int) := by omega
        simp (maxSteps := 4000000) only [↓exT_call G50_46, ↓exT_callo G50_46, ↓exT_calloG G50_46, ↓exT_call G50_47, ↓exT_callo G50_47, ↓exT_calloG G50_47, ↓exT_call G50_53, ↓exT_callo G50_53, ↓exT_calloG G50_53, hx1', hx3, ecast, tB, hB, hgs, hsx, c1, c2, hdl, hjl, go_sem, Nat.reduceAdd, Nat.reduceSub, Nat.reduceMul, Nat.reduceEqDiff, Nat.reduceLeDiff, Nat.reduceLT, Nat.reduceBEq, Int.reduceLE, Int.reduceLT, Int.reduceToNat, Int.reduceNeg, Int.reduceAdd, Int.reduceSub, Int.reduceMul, ↓reduceIte]
        exact ⟨by omega, by omega, by omega, x + 1, ⟨by omega, by omega⟩, by omega, hj.symm, by omega⟩
      · have hx1' : ¬ (x : Int) + 1 < (E : Int) := by omega
        rw [hone, if_pos (.inr (.inr (.inr (by omega))))]
        simp (maxSteps := 4000000) only [↓exT_call G50_46, ↓exT_callo G50_46, ↓exT_calloG G50_46, ↓exT_call G50_47, ↓exT_callo G50_47, ↓exT_calloG G50_47, ↓exT_call G50_53, ↓exT_callo G50_53, ↓exT_calloG G50_53, hx1', hx2', oneV, go_sem, Nat.reduceAdd, Nat.reduceSub, Nat.reduceMul, Nat.reduceEqDiff, Nat.reduceLeDiff, Nat.reduceLT, Nat.reduceBEq, Int.reduceLE, Int.reduceLT, Int.reduceToNat, Int.reduceNeg, Int.reduceAdd, Int.reduceSub, Int.reduceMul, ↓reduceIte]
    have hx2' : ¬ ((joinR rd (A + 1) x).length : Int) < (n9 : Int) := by omega
    have hx0 : x = manyN n9 - 1 := by omega
    have hnot : ¬ (1200 < n9 ∨ n5 < 1 ∨ maxNum < n5 ∨ A + E < A + manyN n9) := by omega
    rw [if_neg hnot] at hone
    have htx : (joinR rd (A + 1) x).take n9 = textR rd A n9 := by rw [hx0]; rfl
    have htl : (textR rd A n9).length = n9 := by rw [← htx, List.length_take]; omega
    have hjl' : (n9 : Int) ≤ ((joinR rd (A + 1) x).length : Int) := by omega
    have hg1' : (textR rd A n9).length < 4000000 := by omega
    have hn5' : (n5 : Int) < 4294967296 := by omega
    generalize hT : textR rd A n9 = T at *
    have hsl : (secs gn.toNat ⟨(n5 : Nat), T⟩).length = manyN n9 := by rw [secs_len, htl]
    have hse := secs_all (rd := rd) (g := gn.toNat) (at_ := A) (r := ⟨(n5 : Nat), T⟩) (m := manyN n9) hsl
    rw [hrec] at hone
    generalize hSL : secs gn.toNat ⟨(n5 : Nat), T⟩ = SL at *
    have hone0 : oneR rd gn.toNat A (A + E) = none ∨ SL = (List.range (manyN n9)).map (fun i => rd (A + i)) := by
      rw [hone]
      by_cases h : SL = (List.range (manyN n9)).map (fun i => rd (A + i))
      · exact .inr h
      · exact .inl (by rw [if_neg h])
    have hSb : SL.length < 4000000 := by omega
    by_cases hx1 : (x : Int) + 1 < (E : Int) <;> simp (maxSteps := 4000000) only [↓exT_call G50_46, ↓exT_callo G50_46, ↓exT_calloG G50_46, ↓exT_call G50_47, ↓exT_callo G50_47, ↓exT_calloG G50_47, ↓exT_call G50_53, ↓exT_callo G50_53, ↓exT_calloG G50_53, hx1, hx2', hjl', htx, hg0, hg1, hn5', hg1', hT, hSL, go_sem, Nat.reduceAdd, Nat.reduceSub, Nat.reduceMul, Nat.reduceEqDiff, Nat.reduceLeDiff, Nat.reduceLT, Nat.reduceBEq, Int.reduceLE, Int.reduceLT, Int.reduceToNat, Int.reduceNeg, Int.reduceAdd, Int.reduceSub, Int.reduceMul, ↓reduceIte]
    all_goals refine awp_loopM (α := Nat) (fun i => [(2, .c (.s (.int .i64 A))), (4, .c (.ptr 4 0)), (8, .c (.ptr 8 0)), (11, .c (.ptr 11 0)), (15, .c (.s (.list 1 (encs strE SL) false))), (16, .c (.s (.int .i64 i)))]) (fun i => [(4, .box [.s (.list 1 (encs strE ss) f), .s (.list 2 (encs wrE cs) g)]), (8, .box [.s (.int .i64 0), .s (.str [])]), (11, .box [.s (.int .i64 n5), .s (.str T)])]) (fun i => SL.length - i) 0 (fun i => i ≤ SL.length ∧ ∀ j, j < i → rd (A + j) = SL.getD j default) ⟨Nat.zero_le _, fun j h => by omega⟩ (Weak.meets ?_) ?_
    case pos.refine_1 =>
      simp (maxSteps := 4000000) only [↓exT_call G50_46, ↓exT_callo G50_46, ↓exT_calloG G50_46, ↓exT_call G50_47, ↓exT_callo G50_47, ↓exT_calloG G50_47, ↓exT_call G50_53, ↓exT_callo G50_53, ↓exT_calloG G50_53, go_sem, Nat.reduceAdd, Nat.reduceSub, Nat.reduceMul, Nat.reduceEqDiff, Nat.reduceLeDiff, Nat.reduceLT, Nat.reduceBEq, Int.reduceLE, Int.reduceLT, Int.reduceToNat, Int.reduceNeg, Int.reduceAdd, Int.reduceSub, Int.reduceMul, ↓reduceIte]
      rfl
    case neg.refine_1 =>
      simp (maxSteps := 4000000) only [↓exT_call G50_46, ↓exT_callo G50_46, ↓exT_calloG G50_46, ↓exT_call G50_47, ↓exT_callo G50_47, ↓exT_calloG G50_47, ↓exT_call G50_53, ↓exT_callo G50_53, ↓exT_calloG G50_53, go_sem, Nat.reduceAdd, Nat.reduceSub, Nat.reduceMul, Nat.reduceEqDiff, Nat.reduceLeDiff, Nat.reduceLT, Nat.reduceBEq, Int.reduceLE, Int.reduceLT, Int.reduceToNat, Int.reduceNeg, Int.reduceAdd, Int.reduceSub, Int.reduceMul, ↓reduceIte]
      rfl
    all_goals clear hjl hjlN hx2 hx2' hjl' hx1
    all_goals rintro y ⟨hy, hw⟩
    all_goals by_cases hyl : y < SL.length
    · have hyi : (y : Int) < (SL.length : Int) := by omega
      have ecast : (A : Int) + (y : Int) = ((A + y : Nat) : Int) := by omega
      have tB : ((A + y : Nat) : Int).toNat = A + y := Int.toNat_natCast _
      have hB : ((A + y : Nat) : Int) < (ss.length : Int) := by omega
      by_cases he : rd (A + y) = SL.getD y default
      · simp (maxSteps := 4000000) only [↓exT_call G50_46, ↓exT_callo G50_46, ↓exT_calloG G50_46, ↓exT_call G50_47, ↓exT_callo G50_47, ↓exT_calloG G50_47, ↓exT_call G50_53, ↓exT_callo G50_53, ↓exT_calloG G50_53, hyi, ecast, tB, hB, hgs, c2, he, go_sem, Nat.reduceAdd, Nat.reduceSub, Nat.reduceMul, Nat.reduceEqDiff, Nat.reduceLeDiff, Nat.reduceLT, Nat.reduceBEq, Int.reduceLE, Int.reduceLT, Int.reduceToNat, Int.reduceNeg, Int.reduceAdd, Int.reduceSub, Int.reduceMul, ↓reduceIte]
        refine ⟨by omega, by omega, y + 1, ⟨by omega, fun j hj => ?_⟩, by omega, by omega⟩
        by_cases h : j = y
        · subst h; exact he
        · exact hw j (by omega)
      · rw [if_neg (fun h => he (hse.1 h y (by omega)))] at hone
        rw [hone]
        simp (maxSteps := 4000000) only [↓exT_call G50_46, ↓exT_callo G50_46, ↓exT_calloG G50_46, ↓exT_call G50_47, ↓exT_callo G50_47, ↓exT_calloG G50_47, ↓exT_call G50_53, ↓exT_callo G50_53, ↓exT_calloG G50_53, hyi, ecast, tB, hB, hgs, c2, he, oneV, go_sem, Nat.reduceAdd, Nat.reduceSub, Nat.reduceMul, Nat.reduceEqDiff, Nat.reduceLeDiff, Nat.reduceLT, Nat.reduceBEq, Int.reduceLE, Int.reduceLT, Int.reduceToNat, Int.reduceNeg, Int.reduceAdd, Int.reduceSub, Int.reduceMul, ↓reduceIte]
        omega
    · have hyi : ¬ (y : Int) < (SL.length : Int) := by omega
      obtain rfl : y = SL.length := by omega
      rw [if_pos (hse.2 (fun i hi => hw i (by omega)))] at hone
      rw [hone, ← hsl]
      simp (maxSteps := 4000000) only [↓exT_call G50_46, ↓exT_callo G50_46, ↓exT_calloG G50_46, ↓exT_call G50_47, ↓exT_callo G50_47, ↓exT_calloG G50_47, ↓exT_call G50_53, ↓exT_callo G50_53, ↓exT_calloG G50_53, hyi, oneV, go_sem, Nat.reduceAdd, Nat.reduceSub, Nat.reduceMul, Nat.reduceEqDiff, Nat.reduceLeDiff, Nat.reduceLT, Nat.reduceBEq, Int.reduceLE, Int.reduceLT, Int.reduceToNat, Int.reduceNeg, Int.reduceAdd, Int.reduceSub, Int.reduceMul, ↓reduceIte]
    · have hyi : (y : Int) < (SL.length : Int) := by omega
      have ecast : (A : Int) + (y : Int) = ((A + y : Nat) : Int) := by omega
      have tB : ((A + y : Nat) : Int).toNat = A + y := Int.toNat_natCast _
      have hB : ((A + y : Nat) : Int) < (ss.length : Int) := by omega
      by_cases he : rd (A + y) = SL.getD y default
      · simp (maxSteps := 4000000) only [↓exT_call G50_46, ↓exT_callo G50_46, ↓exT_calloG G50_46, ↓exT_call G50_47, ↓exT_callo G50_47, ↓exT_calloG G50_47, ↓exT_call G50_53, ↓exT_callo G50_53, ↓exT_calloG G50_53, hyi, ecast, tB, hB, hgs, c2, he, go_sem, Nat.reduceAdd, Nat.reduceSub, Nat.reduceMul, Nat.reduceEqDiff, Nat.reduceLeDiff, Nat.reduceLT, Nat.reduceBEq, Int.reduceLE, Int.reduceLT, Int.reduceToNat, Int.reduceNeg, Int.reduceAdd, Int.reduceSub, Int.reduceMul, ↓reduceIte]
        refine ⟨by omega, by omega, y + 1, ⟨by omega, fun j hj => ?_⟩, by omega, by omega⟩
        by_cases h : j = y
        · subst h; exact he
        · exact hw j (by omega)
      · rw [if_neg (fun h => he (hse.1 h y (by omega)))] at hone
        rw [hone]
        simp (maxSteps := 4000000) only [↓exT_call G50_46, ↓exT_callo G50_46, ↓exT_calloG G50_46, ↓exT_call G50_47, ↓exT_callo G50_47, ↓exT_calloG G50_47, ↓exT_call G50_53, ↓exT_callo G50_53, ↓exT_calloG G50_53, hyi, ecast, tB, hB, hgs, c2, he, oneV, go_sem, Nat.reduceAdd, Nat.reduceSub, Nat.reduceMul, Nat.reduceEqDiff, Nat.reduceLeDiff, Nat.reduceLT, Nat.reduceBEq, Int.reduceLE, Int.reduceLT, Int.reduceToNat, Int.reduceNeg, Int.reduceAdd, Int.reduceSub, Int.reduceMul, ↓reduceIte]
        omega
    · have hyi : ¬ (y : Int) < (SL.length : Int) := by omega
      obtain rfl : y = SL.length := by omega
      rw [if_pos (hse.2 (fun i hi => hw i (by omega)))] at hone
      rw [hone, ← hsl]
      simp (maxSteps := 4000000) only [↓exT_call G50_46, ↓exT_callo G50_46, ↓exT_calloG G50_46, ↓exT_call G50_47, ↓exT_callo G50_47, ↓exT_calloG G50_47, ↓exT_call G50_53, ↓exT_callo G50_53, ↓exT_calloG G50_53, hyi, oneV, go_sem, Nat.reduceAdd, Nat.reduceSub, Nat.reduceMul, Nat.reduceEqDiff, Nat.reduceLeDiff, Nat.reduceLT, Nat.reduceBEq, Int.reduceLE, Int.reduceLT, Int.reduceToNat, Int.reduceNeg, Int.reduceAdd, Int.reduceSub, Int.reduceMul, ↓reduceIte]

end Go.Proofs.Ytniioedflegdkaa

/- The document's functions on records, fourth part: what a disk has. -/
namespace Go.Proofs.Ytniioedflegdkaa
open Go Go.Ab Go.Proofs Go.Fs
def rScanG_enc : (List Bs) × (List Wr) × (Bool) × (Bool) → List V := fun ⟨ss, cs, f, g⟩ => [.agg [.s (.list 1 (encs strE ss) f), .s (.list 2 (encs wrE cs) g)]]
theorem rScanG_inj : ∀ x y, rScanG_enc x = rScanG_enc y → x = y := by
  rintro ⟨ss, cs, f, g⟩ ⟨ss2, cs2, f2, g2⟩ h
  simp only [rScanG_enc, List.cons.injEq, V.c.injEq, V.agg.injEq, C.s.injEq, S.list.injEq, S.str.injEq, S.int.injEq, S.bool.injEq, S.fn.injEq, S.cref.injEq, strE_inj, true_and, and_true, wrE_inj] at h
  simp_all
noncomputable def rScanG : List V → Option (V) := specE rScanG_enc (fun ⟨ss, cs, f, g⟩ => True) (fun ⟨ss, cs, f, g⟩ => .tup [.inr [.s (.int .i64 ((scanD ⟨ss, cs⟩).1.gen : Nat)), .s (.list 2 (encs recE (scanD ⟨ss, cs⟩).1.recs) false), .s (.int .i64 ((scanD ⟨ss, cs⟩).1.next : Nat))], .inl (.s (.int .i64 (scanD ⟨ss, cs⟩).2))])
theorem rScanG_eq {ss : List Bs} {cs : List Wr} {f : Bool} {g : Bool} [Decidable (True)] : rScanG [.agg [.s (.list 1 (encs strE ss) f), .s (.list 2 (encs wrE cs) g)]] = if True then some (.tup [.inr [.s (.int .i64 ((scanD ⟨ss, cs⟩).1.gen : Nat)), .s (.list 2 (encs recE (scanD ⟨ss, cs⟩).1.recs) false), .s (.int .i64 ((scanD ⟨ss, cs⟩).1.next : Nat))], .inl (.s (.int .i64 (scanD ⟨ss, cs⟩).2))]) else none := specE_eq rScanG_inj (ss, cs, f, g)
theorem rScanG_call {ss : List Bs} {cs : List Wr} {f : Bool} {g : Bool} {gt : Bool} {K : V → Prop} : callE rScanG [.agg [.s (.list 1 (encs strE ss) f), .s (.list 2 (encs wrE cs) g)]] gt K = bindV (ifV gt (.tup [.inr [.s (.int .i64 ((scanD ⟨ss, cs⟩).1.gen : Nat)), .s (.list 2 (encs recE (scanD ⟨ss, cs⟩).1.recs) false), .s (.int .i64 ((scanD ⟨ss, cs⟩).1.next : Nat))], .inl (.s (.int .i64 (scanD ⟨ss, cs⟩).2))])) K := callE_all (by rw [rScanG_eq]; rfl)
theorem rScanG_callo {ss : List Bs} {cs : List Wr} {f : Bool} {g : Bool} {m : Nat → Option Ab.Obj} {locs : List Nat} {K : V → (Nat → Option Ab.Obj) → Prop} : callO rScanG (some [.agg [.s (.list 1 (encs strE ss) f), .s (.list 2 (encs wrE cs) g)]]) m locs K = K (.tup [.inr [.s (.int .i64 ((scanD ⟨ss, cs⟩).1.gen : Nat)), .s (.list 2 (encs recE (scanD ⟨ss, cs⟩).1.recs) false), .s (.int .i64 ((scanD ⟨ss, cs⟩).1.next : Nat))], .inl (.s (.int .i64 (scanD ⟨ss, cs⟩).2))]) (sealW m locs (.tup [.inr [.s (.int .i64 ((scanD ⟨ss, cs⟩).1.gen : Nat)), .s (.list 2 (encs recE (scanD ⟨ss, cs⟩).1.recs) false), .s (.int .i64 ((scanD ⟨ss, cs⟩).1.next : Nat))], .inl (.s (.int .i64 (scanD ⟨ss, cs⟩).2))])) := callO_all (by rw [rScanG_eq]; rfl)
attribute [go_sem] rScanG_call rScanG_callo

def sc_ref18_Scan : SC := .seq (.reg [⟨some 1, .box 2, [.t 0], none⟩,
⟨some 2, .alloc [.int .i64 0, .list 0 [] true, .int .i64 0], [], none⟩,
⟨some 3, .mv, [.k (.c (.s (.int .i64 0)))], none⟩]) (.seq (.seq (.reg [⟨some 11, .load 2 true, [.t 1], none⟩,
⟨some 12, .call 45, [.t 11], none⟩,
⟨some 13, .not, [.t 12], none⟩,
⟨some 14, .mv, [.t 13], none⟩,
⟨some 15, .fadr 0, [.t 1], some (14, false)⟩,
⟨some 16, .load 1 false, [.t 15], some (14, false)⟩,
⟨some 17, .len false, [.t 16], some (14, false)⟩,
⟨some 18, .bin .lss, [.t 17, .k (.c (.s (.int .i64 9)))], some (14, false)⟩,
⟨some 19, .pick, [.t 14, .k (.c (.s (.bool true))), .t 18], none⟩]) (.cond (.t 19) (.seq (.reg [⟨some 20, .build [.int .i64 0, .list 0 [] true, .int .i64 0] [], [], none⟩,
⟨none, .store 3 true, [.t 2, .t 20], none⟩,
⟨some 3, .mv, [.k (.c (.s (.int .i64 1)))], none⟩]) (.ret)) (.skip))) (.seq (.reg [⟨some 21, .load 2 true, [.t 1], none⟩,
⟨some 22, .call 46, [.t 21, .k (.c (.s (.int .i64 0)))], none⟩,
⟨some 4, .mv, [.t 22], none⟩]) (.seq (.reg [⟨some 23, .mv, [.t 4], none⟩,
⟨some 24, .slcS true true, [.t 23, .k (.c (.s (.int .i64 1))), .k (.c (.s (.int .i64 5)))], none⟩,
⟨some 25, .call 47, [.t 24], none⟩,
⟨some 5, .mv, [.t 25], none⟩]) (.seq (.seq (.reg [⟨some 26, .mv, [.t 5], none⟩,
⟨some 27, .bin .gtr, [.t 26, .k (.c (.s (.int .i64 2147483647)))], none⟩,
⟨some 28, .mv, [.t 27], none⟩,
⟨some 29, .mv, [.t 4], some (28, false)⟩,
⟨some 30, .mv, [.t 5], some (28, false)⟩,
⟨some 31, .call 48, [.t 30], some (28, false)⟩,
⟨some 32, .bin .neq, [.t 29, .t 31], some (28, false)⟩,
⟨some 33, .pick, [.t 28, .k (.c (.s (.bool true))), .t 32], none⟩]) (.cond (.t 33) (.seq (.reg [⟨some 34, .build [.int .i64 0, .list 0 [] true, .int .i64 0] [], [], none⟩,
⟨none, .store 3 true, [.t 2, .t 34], none⟩,
⟨some 3, .mv, [.k (.c (.s (.int .i64 2)))], none⟩]) (.ret)) (.skip))) (.seq (.reg [⟨some 36, .load 2 true, [.t 1], none⟩,
⟨some 37, .mv, [.t 5], none⟩,
⟨some 38, .call 49, [.t 36, .t 37], none⟩,
⟨some 35, .mv, [.t 38], none⟩,
⟨some 39, .ext 0, [.t 35], none⟩,
⟨some 40, .ext 1, [.t 35], none⟩,
⟨some 6, .mv, [.t 39], none⟩,
⟨some 7, .mv, [.t 40], none⟩]) (.seq (.reg [⟨some 41, .mv, [.t 5], none⟩,
⟨some 42, .build [.int .i64 0, .list 0 [] true, .int .i64 0] [(0, 1)], [.t 41], none⟩,
⟨some 8, .alloc [.int .i64 0, .list 0 [] true, .int .i64 0], [], none⟩,
⟨none, .store 3 true, [.t 8, .t 42], none⟩]) (.seq (.block 0 (.loop (.seq (.seq (.reg [⟨some 43, .mv, [.t 7], none⟩,
⟨some 44, .bin .gtr, [.t 43, .k (.c (.s (.int .i64 0)))], none⟩]) (.cond (.t 44) (.skip) (.exit 0))) (.block 1 (.seq (.reg [⟨some 46, .load 2 true, [.t 1], none⟩,
⟨some 47, .mv, [.t 5], none⟩,
⟨some 48, .mv, [.t 6], none⟩,
⟨some 49, .mv, [.t 7], none⟩,
⟨some 50, .call 50, [.t 46, .t 47, .t 48, .t 49], none⟩,
⟨some 45, .mv, [.t 50], none⟩,
⟨some 51, .ext 0, [.t 45], none⟩,
⟨some 52, .ext 1, [.t 45], none⟩,
⟨some 9, .alloc [.int .i64 0, .str []], [], none⟩,
⟨none, .store 2 true, [.t 9, .t 51], none⟩,
⟨some 10, .mv, [.t 52], none⟩]) (.seq (.seq (.regD [⟨some 53, .mv, [.t 10], none⟩,
⟨some 54, .bin .eql, [.t 53, .k (.c (.s (.int .i64 0)))], none⟩,
⟨some 55, .mv, [.t 54], none⟩,
⟨some 56, .fadr 1, [.t 8], some (55, false)⟩,
⟨some 57, .load 1 false, [.t 56], some (55, false)⟩,
⟨some 58, .len false, [.t 57], some (55, false)⟩,
⟨some 59, .bin .gtr, [.t 58, .k (.c (.s (.int .i64 0)))], some (55, false)⟩,
⟨some 60, .mv, [.t 59], some (55, false)⟩,
⟨some 61, .fadr 0, [.t 9], some (60, true)⟩,
⟨some 62, .load 1 false, [.t 61], some (60, true)⟩,
⟨some 63, .fadr 1, [.t 8], some (60, true)⟩,
⟨some 64, .load 1 false, [.t 63], some (60, true)⟩,
⟨some 65, .fadr 1, [.t 8], some (60, true)⟩,
⟨some 66, .load 1 false, [.t 65], some (60, true)⟩,
⟨some 67, .len false, [.t 66], some (60, true)⟩,
⟨some 68, .bin .sub, [.t 67, .k (.c (.s (.int .i64 1)))], some (60, true)⟩,
⟨some 69, .iadr 2, [.t 64, .t 68], some (60, true)⟩,
⟨some 70, .fadr 0, [.t 69], some (60, true)⟩,
⟨some 71, .load 1 false, [.t 70], some (60, true)⟩,
⟨some 72, .bin .add, [.t 71, .k (.c (.s (.int .i64 1)))], some (60, true)⟩,
⟨some 73, .bin .neq, [.t 62, .t 72], some (60, true)⟩,
⟨some 74, .pick, [.t 60, .t 73, .k (.c (.s (.bool false)))], some (55, false)⟩,
⟨some 75, .pick, [.t 55, .k (.c (.s (.bool true))), .t 74], none⟩] []) (.cond (.t 75) (.exit 0) (.skip))) (.seq (.reg [⟨some 76, .fadr 1, [.t 8], none⟩,
⟨some 77, .load 1 false, [.t 76], none⟩,
⟨some 78, .load 2 true, [.t 9], none⟩,
⟨some 79, .bslice 2 1 [.int .i64 0, .str []] [0], [.t 78], none⟩,
⟨some 80, .append false 2 24, [.t 77, .t 79], none⟩,
⟨some 81, .fadr 1, [.t 8], none⟩,
⟨none, .store 1 false, [.t 81, .t 80], none⟩]) (.seq (.reg [⟨some 82, .mv, [.t 6], none⟩,
⟨some 83, .mv, [.t 10], none⟩,
⟨some 84, .bin .add, [.t 82, .t 83], none⟩,
⟨some 6, .mv, [.t 84], none⟩]) (.reg [⟨some 85, .mv, [.t 7], none⟩,
⟨some 86, .mv, [.t 10], none⟩,
⟨some 87, .bin .sub, [.t 85, .t 86], none⟩,
⟨some 7, .mv, [.t 87], none⟩]))))))))) (.seq (.reg [⟨some 88, .mv, [.t 6], none⟩,
⟨some 89, .fadr 2, [.t 8], none⟩,
⟨none, .store 1 false, [.t 89, .t 88], none⟩]) (.seq (.reg [⟨some 90, .load 3 true, [.t 8], none⟩,
⟨none, .store 3 true, [.t 2, .t 90], none⟩,
⟨some 3, .mv, [.k (.c (.s (.int .i64 0)))], none⟩]) (.ret))))))))))
noncomputable def G_ref18_Scan : FuncId → Ab.Spec := addS (addS (addS (addS (addS (addS (noS) 45 (plain rRightG)) 46 (plain rReadG)) 47 (plain rValueG)) 48 (plain rMarkG)) 49 (plain rAreaG)) 50 (plain rOneG)
theorem G_ref18_Scan_ok : ∀ f, Contract Try.prog f (G_ref18_Scan f) := (addS_ok (addS_ok (addS_ok (addS_ok (addS_ok (addS_ok (noS_ok _) contract_ref17_Right) contract_ref17_Read) contract_ref18_value) contract_ref18_Mark) contract_ref18_Area) contract_ref18_one)
theorem G17_45 : G_ref18_Scan 45 = plain rRightG := by simp [G_ref18_Scan, addS]
theorem G17_46 : G_ref18_Scan 46 = plain rReadG := by simp [G_ref18_Scan, addS]
theorem G17_47 : G_ref18_Scan 47 = plain rValueG := by simp [G_ref18_Scan, addS]
theorem G17_48 : G_ref18_Scan 48 = plain rMarkG := by simp [G_ref18_Scan, addS]
theorem G17_49 : G_ref18_Scan 49 = plain rAreaG := by simp [G_ref18_Scan, addS]
theorem G17_50 : G_ref18_Scan 50 = plain rOneG := by simp [G_ref18_Scan, addS]
set_option maxHeartbeats 16000000 in
set_option maxRecDepth 1000000 in
set_option linter.unusedSimpArgs false in
set_option linter.unusedVariables false in
theorem contract_ref18_Scan : Contract Try.prog 17 (plain rScanG) := by
  have hb : ∃ c, Try.f17.body = some c ∧ codeOk 91 c = true ∧ cCode Try.prog c = sc_ref18_Scan := ⟨_, rfl, by kernel_rfl, by kernel_rfl⟩
  obtain ⟨c, hb1, hb2, hb3⟩ := hb
  refine contract_of (n := 1) G_ref18_Scan_ok hB hD Try.func17 hb1 (by kernel_rfl) hb2 hb3 (rs := [.cell 2 3 true, .tmp 3]) (by kernel_rfl) (by decide) ?_ ?_
  · intro args x h
    obtain ⟨y, hy, -⟩ := Option.map_eq_some_iff.1 h
    obtain ⟨⟨ss, cs, f, g⟩, rfl, -⟩ := specE_some hy
    rfl
  · intro args r hr
    obtain ⟨y, hy, rfl⟩ := Option.map_eq_some_iff.1 hr
    obtain ⟨⟨ss, cs, f, g⟩, rfl, hc, rfl⟩ := specE_some hy
    clear hr hy
    have hc : True := hc
    change awp _ _ (postQ _ (.v (.tup [.inr [.s (.int .i64 ((scanD ⟨ss, cs⟩).1.gen : Nat)), .s (.list 2 (encs recE (scanD ⟨ss, cs⟩).1.recs) false), .s (.int .i64 ((scanD ⟨ss, cs⟩).1.next : Nat))], .inl (.s (.int .i64 (scanD ⟨ss, cs⟩).2))]))) _
    unfold rScanG_enc sc_ref18_Scan
    cases hr : rightD ⟨ss, cs⟩ with
    | false =>
      have hs : scanD ⟨ss, cs⟩ = (⟨0, [], 0⟩, 1) := by unfold scanD; rw [if_pos (.inl hr)]
      rw [hs]
      simp (maxSteps := 4000000) only [↓exT_call G17_45, ↓exT_callo G17_45, ↓exT_calloG G17_45, ↓exT_call G17_46, ↓exT_callo G17_46, ↓exT_calloG G17_46, ↓exT_call G17_47, ↓exT_callo G17_47, ↓exT_calloG G17_47, ↓exT_call G17_48, ↓exT_callo G17_48, ↓exT_calloG G17_48, ↓exT_call G17_49, ↓exT_callo G17_49, ↓exT_calloG G17_49, ↓exT_call G17_50, ↓exT_callo G17_50, ↓exT_calloG G17_50, hr, go_sem, Nat.reduceAdd, Nat.reduceSub, Nat.reduceMul, Nat.reduceEqDiff, Nat.reduceLeDiff, Nat.reduceLT, Nat.reduceBEq, Int.reduceLE, Int.reduceLT, Int.reduceToNat, Int.reduceNeg, Int.reduceAdd, Int.reduceSub, Int.reduceMul, ↓reduceIte]
      all_goals ((repeat' (first | with_reducible apply And.intro | intro)) <;> first | omega | (with_reducible rfl) | skip)
    | true =>
    by_cases h9 : ss.length < 9
    case pos =>
      have hs : scanD ⟨ss, cs⟩ = (⟨0, [], 0⟩, 1) := by unfold scanD; rw [if_pos (.inr h9)]
      have h9' : (ss.length : Int) < 9 := by omega
      rw [hs]
      simp (maxSteps := 4000000) only [↓exT_call G17_45, ↓exT_callo G17_45, ↓exT_calloG G17_45, ↓exT_call G17_46, ↓exT_callo G17_46, ↓exT_calloG G17_46, ↓exT_call G17_47, ↓exT_callo G17_47, ↓exT_calloG G17_47, ↓exT_call G17_48, ↓exT_callo G17_48, ↓exT_calloG G17_48, ↓exT_call G17_49, ↓exT_callo G17_49, ↓exT_calloG G17_49, ↓exT_call G17_50, ↓exT_callo G17_50, ↓exT_calloG G17_50, hr, h9', go_sem, Nat.reduceAdd, Nat.reduceSub, Nat.reduceMul, Nat.reduceEqDiff, Nat.reduceLeDiff, Nat.reduceLT, Nat.reduceBEq, Int.reduceLE, Int.reduceLT, Int.reduceToNat, Int.reduceNeg, Int.reduceAdd, Int.reduceSub, Int.reduceMul, ↓reduceIte]
      all_goals ((repeat' (first | with_reducible apply And.intro | intro)) <;> first | omega | (with_reducible rfl) | skip)
    have h9' : ¬ (ss.length : Int) < 9 := by omega
    obtain ⟨q1, q2, q3, -, -⟩ := (right_iff _).1 hr
    simp only at q1 q2 q3
    have c2 : cs.length < 4000000 := by omega
    have h0s : (0 : Int) < (ss.length : Int) := by omega
    have hl0 : (getS ⟨ss, cs⟩ 0).length = 32 := getS_len hr (by simp only; omega)
    have hgd : num4 ((getS ⟨ss, cs⟩ 0).drop 1) = genD ⟨ss, cs⟩ := rfl
    have hgl : genD ⟨ss, cs⟩ < 4294967296 := num4_lt _
    have hsc : scanD ⟨ss, cs⟩ = if maxNum < genD ⟨ss, cs⟩ ∨ getS ⟨ss, cs⟩ 0 ≠ markS (genD ⟨ss, cs⟩) then (⟨0, [], 0⟩, 2)
      else (⟨genD ⟨ss, cs⟩, (scanAt ⟨ss, cs⟩ (genD ⟨ss, cs⟩)).1, (scanAt ⟨ss, cs⟩ (genD ⟨ss, cs⟩)).2⟩, 0) := by
      unfold scanD; rw [if_neg (by simp [hr]; omega)]
    generalize hG : genD ⟨ss, cs⟩ = G at *
    have hff := from_fit (n := ss.length) (g := G) (by omega)
    have hst := got_start ⟨ss, cs⟩ G
    have hod : ∀ a e : Int, oneD ⟨ss, cs⟩ (G : Int) a e = oneV (oneR (getS ⟨ss, cs⟩) G a.toNat e.toNat) := fun a e => rfl
    obtain ⟨rd, hrd⟩ : ∃ rd, getS ⟨ss, cs⟩ = rd := ⟨_, rfl⟩
    have hgs : ∀ i, getS ⟨ss, cs⟩ i = rd i := fun i => by rw [hrd]
    rw [hrd] at hl0 hgd hsc hst hod
    have hn1 : num4 (((rd 0).take 5).drop 1) = G := by rw [← hgd]; exact num4_slice (a := 1)
    have hd1 : 4 ≤ (((rd 0).take 5).drop 1).length := by rw [List.length_drop, List.length_take]; omega
    have hs5 : (5 : Int) ≤ ((rd 0).length : Int) := by omega
    have hmn : maxNum = 2147483647 := rfl
    by_cases hm : maxNum < G
    case pos =>
      have hm' : 2147483647 < (G : Int) := by omega
      rw [if_pos (.inl hm)] at hsc
      rw [hsc]
      simp (maxSteps := 4000000) only [↓exT_call G17_45, ↓exT_callo G17_45, ↓exT_calloG G17_45, ↓exT_call G17_46, ↓exT_callo G17_46, ↓exT_calloG G17_46, ↓exT_call G17_47, ↓exT_callo G17_47, ↓exT_calloG G17_47, ↓exT_call G17_48, ↓exT_callo G17_48, ↓exT_calloG G17_48, ↓exT_call G17_49, ↓exT_callo G17_49, ↓exT_calloG G17_49, ↓exT_call G17_50, ↓exT_callo G17_50, ↓exT_calloG G17_50, hr, h9', c2, h0s, hgs, hn1, hd1, hs5, hm', go_sem, Nat.reduceAdd, Nat.reduceSub, Nat.reduceMul, Nat.reduceEqDiff, Nat.reduceLeDiff, Nat.reduceLT, Nat.reduceBEq, Int.reduceLE, Int.reduceLT, Int.reduceToNat, Int.reduceNeg, Int.reduceAdd, Int.reduceSub, Int.reduceMul, ↓reduceIte]
      all_goals ((repeat' (first | with_reducible apply And.intro | intro)) <;> first | omega | (with_reducible rfl) | skip)
    have hm' : ¬ 2147483647 < (G : Int) := by omega
    have hG1 : (G : Int) < 4294967296 := by omega
    by_cases hk : rd 0 = markS G
    case neg =>
      rw [if_pos (.inr hk)] at hsc
      rw [hsc]
      simp (maxSteps := 4000000) only [↓exT_call G17_45, ↓exT_callo G17_45, ↓exT_calloG G17_45, ↓exT_call G17_46, ↓exT_callo G17_46, ↓exT_calloG G17_46, ↓exT_call G17_47, ↓exT_callo G17_47, ↓exT_calloG G17_47, ↓exT_call G17_48, ↓exT_callo G17_48, ↓exT_calloG G17_48, ↓exT_call G17_49, ↓exT_callo G17_49, ↓exT_calloG G17_49, ↓exT_call G17_50, ↓exT_callo G17_50, ↓exT_calloG G17_50, hr, h9', c2, h0s, hgs, hn1, hd1, hs5, hm', hk, hG1, go_sem, Nat.reduceAdd, Nat.reduceSub, Nat.reduceMul, Nat.reduceEqDiff, Nat.reduceLeDiff, Nat.reduceLT, Nat.reduceBEq, Int.reduceLE, Int.reduceLT, Int.reduceToNat, Int.reduceNeg, Int.reduceAdd, Int.reduceSub, Int.reduceMul, ↓reduceIte]
      all_goals ((repeat' (first | with_reducible apply And.intro | intro)) <;> first | omega | (with_reducible rfl) | skip)
    rw [if_neg (fun h => h.elim hm (fun h => h hk))] at hsc
    have hrs : (scanD ⟨ss, cs⟩).1.gen = G ∧ (scanD ⟨ss, cs⟩).1.recs = (scanAt ⟨ss, cs⟩ G).1 ∧ (scanD ⟨ss, cs⟩).1.next = (scanAt ⟨ss, cs⟩ G).2 ∧ (scanD ⟨ss, cs⟩).2 = 0 := by rw [hsc]; exact ⟨rfl, rfl, rfl, rfl⟩
    simp only at hst
    generalize htot : scanAt ⟨ss, cs⟩ G = tot at *
    rw [hrs.1, hrs.2.1, hrs.2.2.1, hrs.2.2.2]
    clear hrs hsc htot
    have hk2 : (rd 0 = markS G) = True := eq_true hk
    generalize hA : fromN ss.length G = A0 at *
    generalize hH : halfN ss.length = H at *
    generalize hF : A0 + H = F at *
    simp (maxSteps := 4000000) only [↓exT_call G17_45, ↓exT_callo G17_45, ↓exT_calloG G17_45, ↓exT_call G17_46, ↓exT_callo G17_46, ↓exT_calloG G17_46, ↓exT_call G17_47, ↓exT_callo G17_47, ↓exT_calloG G17_47, ↓exT_call G17_48, ↓exT_callo G17_48, ↓exT_calloG G17_48, ↓exT_call G17_49, ↓exT_callo G17_49, ↓exT_calloG G17_49, ↓exT_call G17_50, ↓exT_callo G17_50, ↓exT_calloG G17_50, hr, h9', c2, h0s, hgs, hn1, hd1, hs5, hm', hk2, hG1, q1, q2, hA, hH, go_sem, Nat.reduceAdd, Nat.reduceSub, Nat.reduceMul, Nat.reduceEqDiff, Nat.reduceLeDiff, Nat.reduceLT, Nat.reduceBEq, Int.reduceLE, Int.reduceLT, Int.reduceToNat, Int.reduceNeg, Int.reduceAdd, Int.reduceSub, Int.reduceMul, ↓reduceIte]
    repeat (refine ⟨by omega, ?_⟩)
    refine awp_loopM (α := List Rec × Nat × Nat) (fun y => [(1, .c (.ptr 1 0)), (2, .c (.ptr 2 0)), (5, .c (.s (.int .i64 G))), (6, .c (.s (.int .i64 y.2.1))), (7, .c (.s (.int .i64 ((F : Int) - y.2.1)))), (8, .c (.ptr 8 0))])
      (fun y => [(1, .box [.s (.list 1 (encs strE ss) f), .s (.list 2 (encs wrE cs) g)]), (2, .box [.s (.int .i64 0), .s (.list 0 [] true), .s (.int .i64 0)]), (8, .box [.s (.int .i64 G), .own 100 y.1.length, .s (.int .i64 0)]), (100, .row 2 (encs recE y.1))]) (fun y => F - y.2.1) ([], A0, H) (fun y => Got rd G F A0 tot y.1 y.2.1 y.2.2 ∧ y.2.1 ≤ F) ⟨hst, by simp only; omega⟩ (Weak.trans (Weak.nilCell (k' := 0) (cells := [.s (.int .i64 G), .s (.list 0 [] true), .s (.int .i64 0)]) 8 1 100 2 rfl rfl rfl) (Weak.meets ?_)) ?_
    · simp (maxSteps := 4000000) only [↓exT_call G17_45, ↓exT_callo G17_45, ↓exT_calloG G17_45, ↓exT_call G17_46, ↓exT_callo G17_46, ↓exT_calloG G17_46, ↓exT_call G17_47, ↓exT_callo G17_47, ↓exT_calloG G17_47, ↓exT_call G17_48, ↓exT_callo G17_48, ↓exT_calloG G17_48, ↓exT_call G17_49, ↓exT_callo G17_49, ↓exT_calloG G17_49, ↓exT_call G17_50, ↓exT_callo G17_50, ↓exT_calloG G17_50, go_sem, Nat.reduceAdd, Nat.reduceSub, Nat.reduceMul, Nat.reduceEqDiff, Nat.reduceLeDiff, Nat.reduceLT, Nat.reduceBEq, Int.reduceLE, Int.reduceLT, Int.reduceToNat, Int.reduceNeg, Int.reduceAdd, Int.reduceSub, Int.reduceMul, ↓reduceIte]
      omega
    rintro ⟨l, a, fu⟩ ⟨hgot, hle⟩
    simp only at hgot hle
    have hlow := hgot.low
    have hlen := hgot.len
    have hl100 : l.length < 4000000 := by omega
    by_cases haf : a < F
    case neg =>
      have he := got_end hgot (.inl (by omega))
      have haf' : ¬ (0 : Int) < (F : Int) - (a : Int) := by omega
      rw [he]
      simp (maxSteps := 4000000) only [↓exT_call G17_45, ↓exT_callo G17_45, ↓exT_calloG G17_45, ↓exT_call G17_46, ↓exT_callo G17_46, ↓exT_calloG G17_46, ↓exT_call G17_47, ↓exT_callo G17_47, ↓exT_calloG G17_47, ↓exT_call G17_48, ↓exT_callo G17_48, ↓exT_calloG G17_48, ↓exT_call G17_49, ↓exT_callo G17_49, ↓exT_calloG G17_49, ↓exT_call G17_50, ↓exT_callo G17_50, ↓exT_calloG G17_50, haf', go_sem, Nat.reduceAdd, Nat.reduceSub, Nat.reduceMul, Nat.reduceEqDiff, Nat.reduceLeDiff, Nat.reduceLT, Nat.reduceBEq, Int.reduceLE, Int.reduceLT, Int.reduceToNat, Int.reduceNeg, Int.reduceAdd, Int.reduceSub, Int.reduceMul, ↓reduceIte]
    have haf' : (0 : Int) < (F : Int) - (a : Int) := by omega
    have haf1 : (1 : Int) ≤ (F : Int) - (a : Int) := by omega
    have hsum : (a : Int) + ((F : Int) - (a : Int)) = (F : Int) := by omega
    have hFl : (F : Int) ≤ (ss.length : Int) := by omega
    cases ho : oneR rd G a F with
    | none =>
      have he := got_end hgot (.inr (.inl ho))
      rw [he]
      have hod' : oneD ⟨ss, cs⟩ (G : Int) a F = (⟨0, []⟩, 0) := by rw [hod, Int.toNat_natCast, Int.toNat_natCast, ho]; rfl
      simp (maxSteps := 4000000) only [↓exT_call G17_45, ↓exT_callo G17_45, ↓exT_calloG G17_45, ↓exT_call G17_46, ↓exT_callo G17_46, ↓exT_calloG G17_46, ↓exT_call G17_47, ↓exT_callo G17_47, ↓exT_calloG G17_47, ↓exT_call G17_48, ↓exT_callo G17_48, ↓exT_calloG G17_48, ↓exT_call G17_49, ↓exT_callo G17_49, ↓exT_calloG G17_49, ↓exT_call G17_50, ↓exT_callo G17_50, ↓exT_calloG G17_50, haf', haf1, hsum, hod', hr, hG1, hFl, go_sem, Nat.reduceAdd, Nat.reduceSub, Nat.reduceMul, Nat.reduceEqDiff, Nat.reduceLeDiff, Nat.reduceLT, Nat.reduceBEq, Int.reduceLE, Int.reduceLT, Int.reduceToNat, Int.reduceNeg, Int.reduceAdd, Int.reduceSub, Int.reduceMul, ↓reduceIte]
    | some p =>
    obtain ⟨r, n⟩ := p
    obtain ⟨-, p1, p2, -, -, p5, p6⟩ := one_hd hgl ho
    have hod' : oneD ⟨ss, cs⟩ (G : Int) a F = (r, (n : Int)) := by rw [hod, Int.toNat_natCast, Int.toNat_natCast, ho]; rfl
    have hn0 : ¬ (n : Int) = 0 := by omega
    have hfo : ∀ hf : follows (lastOr none l) r = true, Got rd G F A0 tot (l ++ [r]) (a + n) (fu - 1) := fun hf => (got_step hgot hgl haf ho hf).1
    by_cases hle0 : l = []
    · subst hle0
      have hf : follows (lastOr none []) r = true := rfl
      have hz : ¬ (0 : Int) < ((0 : Nat) : Int) := by omega
      simp (maxSteps := 4000000) only [↓exT_call G17_45, ↓exT_callo G17_45, ↓exT_calloG G17_45, ↓exT_call G17_46, ↓exT_callo G17_46, ↓exT_calloG G17_46, ↓exT_call G17_47, ↓exT_callo G17_47, ↓exT_calloG G17_47, ↓exT_call G17_48, ↓exT_callo G17_48, ↓exT_calloG G17_48, ↓exT_call G17_49, ↓exT_callo G17_49, ↓exT_calloG G17_49, ↓exT_call G17_50, ↓exT_callo G17_50, ↓exT_calloG G17_50, haf', haf1, hsum, hod', hr, hG1, hFl, hn0, rec_snoc, hz, go_sem, Nat.reduceAdd, Nat.reduceSub, Nat.reduceMul, Nat.reduceEqDiff, Nat.reduceLeDiff, Nat.reduceLT, Nat.reduceBEq, Int.reduceLE, Int.reduceLT, Int.reduceToNat, Int.reduceNeg, Int.reduceAdd, Int.reduceSub, Int.reduceMul, ↓reduceIte]
      exact ⟨by omega, by omega, ([r], a + n, fu - 1), ⟨hfo hf, p5⟩, by simp only; omega, ⟨by simp, by simp only; omega⟩, rfl, rfl⟩
    · have hll : l.length ≠ 0 := fun h => hle0 (List.length_eq_zero_iff.1 h)
      have hz : (0 : Int) < (l.length : Int) := by omega
      have hla := lastOr_ne hle0
      have hll2 := hgot.nums _ (mem_getD (l := l) (i := l.length - 1) (by omega))
      have eix : ((l.length : Int) - 1).toNat = l.length - 1 := by omega
      have hfe : follows (lastOr none l) r = decide (r.num = (l.getD (l.length - 1) default).num + 1) := by rw [hla]; rfl
      have hix : (0 : Int) ≤ (l.length : Int) - 1 ∧ (l.length : Int) - 1 < (l.length : Int) := by omega
      have hge : (encs recE l).getD (l.length - 1) [] = recE (l.getD (l.length - 1) default) := encs_getN (by omega)
      generalize hlr : (l.getD (l.length - 1) default).num = ln at *
      by_cases hnx : r.num = ln + 1
      · have hnx' : decide (r.num = ln + 1) = true := decide_eq_true hnx
        have := hfo (by rw [hfe]; exact hnx')
        simp (maxSteps := 4000000) only [↓exT_call G17_45, ↓exT_callo G17_45, ↓exT_calloG G17_45, ↓exT_call G17_46, ↓exT_callo G17_46, ↓exT_calloG G17_46, ↓exT_call G17_47, ↓exT_callo G17_47, ↓exT_calloG G17_47, ↓exT_call G17_48, ↓exT_callo G17_48, ↓exT_calloG G17_48, ↓exT_call G17_49, ↓exT_callo G17_49, ↓exT_calloG G17_49, ↓exT_call G17_50, ↓exT_callo G17_50, ↓exT_calloG G17_50, haf', haf1, hsum, hod', hr, hG1, hFl, hn0, rec_snoc, hz, hix.1, hix.2, eix, hge, hlr, hnx', go_sem, Nat.reduceAdd, Nat.reduceSub, Nat.reduceMul, Nat.reduceEqDiff, Nat.reduceLeDiff, Nat.reduceLT, Nat.reduceBEq, Int.reduceLE, Int.reduceLT, Int.reduceToNat, Int.reduceNeg, Int.reduceAdd, Int.reduceSub, Int.reduceMul, ↓reduceIte]
        exact ⟨by omega, by omega, by omega, by omega, by omega, (l ++ [r], a + n, fu - 1), ⟨this, p5⟩, by simp only; omega, ⟨by simp, by simp only; omega⟩, by simp, rfl⟩
      · have hnx' : decide (r.num = ln + 1) = false := decide_eq_false hnx
        have he := got_end hgot (.inr (.inr ⟨r, n, ho, by rw [hfe]; exact hnx'⟩))
        rw [he]
        simp (maxSteps := 4000000) only [↓exT_call G17_45, ↓exT_callo G17_45, ↓exT_calloG G17_45, ↓exT_call G17_46, ↓exT_callo G17_46, ↓exT_calloG G17_46, ↓exT_call G17_47, ↓exT_callo G17_47, ↓exT_calloG G17_47, ↓exT_call G17_48, ↓exT_callo G17_48, ↓exT_calloG G17_48, ↓exT_call G17_49, ↓exT_callo G17_49, ↓exT_calloG G17_49, ↓exT_call G17_50, ↓exT_callo G17_50, ↓exT_calloG G17_50, haf', haf1, hsum, hod', hr, hG1, hFl, hn0, rec_snoc, hz, hix.1, hix.2, eix, hge, hlr, hnx', go_sem, Nat.reduceAdd, Nat.reduceSub, Nat.reduceMul, Nat.reduceEqDiff, Nat.reduceLeDiff, Nat.reduceLT, Nat.reduceBEq, Int.reduceLE, Int.reduceLT, Int.reduceToNat, Int.reduceNeg, Int.reduceAdd, Int.reduceSub, Int.reduceMul, ↓reduceIte]
        omega

end Go.Proofs.Ytniioedflegdkaa

/- The document's functions on records, fifth part: an append. -/
namespace Go.Proofs.Ytniioedflegdkaa
open Go Go.Ab Go.Proofs Go.Fs
def rWriteG : List V → Option V
  | [.c (.s (.int .i64 a)), .c (.s (.str s))] => some (.agg [.s (.bool false), .s (.int .i64 a), .s (.str s)])
  | _ => none
theorem rWriteG_call {a : Int} {s : Bs} {gt : Bool} {K : V → Prop} : callE rWriteG [.c (.s (.int .i64 a)), .c (.s (.str s))] gt K = bindV (ifV gt (.agg [.s (.bool false), .s (.int .i64 a), .s (.str s)])) K := callE_all rfl
theorem rWriteG_callo {a : Int} {s : Bs} {m : Nat → Option Ab.Obj} {locs : List Nat} {K : V → (Nat → Option Ab.Obj) → Prop} : callO rWriteG (some [.c (.s (.int .i64 a)), .c (.s (.str s))]) m locs K = K (.agg [.s (.bool false), .s (.int .i64 a), .s (.str s)]) (sealW m locs (.agg [.s (.bool false), .s (.int .i64 a), .s (.str s)])) := callO_all rfl
attribute [go_sem] rWriteG_call rWriteG_callo

def sc_ref18_write : SC := .seq (.reg [⟨some 4, .alloc [.bool false, .int .i64 0, .str []], [], none⟩]) (.seq (.reg [⟨some 5, .mv, [.t 0], none⟩,
⟨some 6, .mv, [.t 1], none⟩,
⟨some 7, .build [.int .i64 0, .str []] [(0, 1), (1, 1)], [.t 5, .t 6], none⟩,
⟨some 8, .build [.bool false, .int .i64 0, .str []] [(1, 2)], [.t 7], none⟩,
⟨none, .store 3 true, [.t 4, .t 8], none⟩]) (.ret))
noncomputable def G_ref18_write : FuncId → Ab.Spec := noS
theorem G_ref18_write_ok : ∀ f, Contract Try.prog f (G_ref18_write f) := (noS_ok _)
set_option maxHeartbeats 16000000 in
set_option maxRecDepth 1000000 in
set_option linter.unusedSimpArgs false in
set_option linter.unusedVariables false in
theorem contract_ref18_write : Contract Try.prog 54 (plain rWriteG) := by
  have hb : ∃ c, Try.f54.body = some c ∧ codeOk 9 c = true ∧ cCode Try.prog c = sc_ref18_write := ⟨_, rfl, by kernel_rfl, by kernel_rfl⟩
  obtain ⟨c, hb1, hb2, hb3⟩ := hb
  refine contract_of (n := 2) G_ref18_write_ok hB hD Try.func54 hb1 (by kernel_rfl) hb2 hb3 (rs := [.cell 4 3 true]) (by kernel_rfl) (by decide) ?_ ?_
  · intro args x h
    unfold plain rWriteG at h
    split at h <;> simp_all
  · intro args r hr
    unfold plain rWriteG at hr
    split at hr
    case h_2 => cases hr
    rename_i a s
    simp only [Option.map_some, Option.some.injEq] at hr
    subst hr
    unfold sc_ref18_write
    simp +contextual (maxSteps := 4000000) only [go_sem, Nat.reduceAdd, Nat.reduceSub, Nat.reduceMul, Nat.reduceEqDiff, Nat.reduceLeDiff, Nat.reduceLT, Nat.reduceBEq, Int.reduceLE, Int.reduceLT, Int.reduceToNat, Int.reduceNeg, Int.reduceAdd, Int.reduceSub, Int.reduceMul, ↓reduceIte]

theorem ops_two {l : List DOp} {a : Int} {s : Bs} : encs opE l ++ [[.bool true, .int .i64 0, .str []], [.bool false, .int .i64 a, .str s]] = encs opE (l ++ [opS, opW a s]) := by rw [encs_append]; rfl
theorem ops_sync {l : List DOp} : encs opE l ++ [[.bool true, .int .i64 0, .str []]] = encs opE (l ++ [opS]) := by rw [encs_append]; rfl
def rAppendG_enc : (List Bs) × (List Wr) × (Bool) × (Bool) × (Bs) → List V := fun ⟨ss, cs, f, g, t⟩ => [.agg [.s (.list 1 (encs strE ss) f), .s (.list 2 (encs wrE cs) g)], .c (.s (.str t))]
theorem rAppendG_inj : ∀ x y, rAppendG_enc x = rAppendG_enc y → x = y := by
  rintro ⟨ss, cs, f, g, t⟩ ⟨ss2, cs2, f2, g2, t2⟩ h
  simp only [rAppendG_enc, List.cons.injEq, V.c.injEq, V.agg.injEq, C.s.injEq, S.list.injEq, S.str.injEq, S.int.injEq, S.bool.injEq, S.fn.injEq, S.cref.injEq, strE_inj, true_and, and_true, wrE_inj] at h
  simp_all
noncomputable def rAppendG : List V → Option (V) := specE rAppendG_enc (fun ⟨ss, cs, f, g, t⟩ => True) (fun ⟨ss, cs, f, g, t⟩ => .tup [.inl (.s (.list 3 (encs opE (appendD ⟨ss, cs⟩ t).1) false)), .inl (.s (.int .i64 (appendD ⟨ss, cs⟩ t).2))])
theorem rAppendG_eq {ss : List Bs} {cs : List Wr} {f : Bool} {g : Bool} {t : Bs} [Decidable (True)] : rAppendG [.agg [.s (.list 1 (encs strE ss) f), .s (.list 2 (encs wrE cs) g)], .c (.s (.str t))] = if True then some (.tup [.inl (.s (.list 3 (encs opE (appendD ⟨ss, cs⟩ t).1) false)), .inl (.s (.int .i64 (appendD ⟨ss, cs⟩ t).2))]) else none := specE_eq rAppendG_inj (ss, cs, f, g, t)
theorem rAppendG_call {ss : List Bs} {cs : List Wr} {f : Bool} {g : Bool} {t : Bs} {gt : Bool} {K : V → Prop} : callE rAppendG [.agg [.s (.list 1 (encs strE ss) f), .s (.list 2 (encs wrE cs) g)], .c (.s (.str t))] gt K = bindV (ifV gt (.tup [.inl (.s (.list 3 (encs opE (appendD ⟨ss, cs⟩ t).1) false)), .inl (.s (.int .i64 (appendD ⟨ss, cs⟩ t).2))])) K := callE_all (by rw [rAppendG_eq]; rfl)
theorem rAppendG_callo {ss : List Bs} {cs : List Wr} {f : Bool} {g : Bool} {t : Bs} {m : Nat → Option Ab.Obj} {locs : List Nat} {K : V → (Nat → Option Ab.Obj) → Prop} : callO rAppendG (some [.agg [.s (.list 1 (encs strE ss) f), .s (.list 2 (encs wrE cs) g)], .c (.s (.str t))]) m locs K = K (.tup [.inl (.s (.list 3 (encs opE (appendD ⟨ss, cs⟩ t).1) false)), .inl (.s (.int .i64 (appendD ⟨ss, cs⟩ t).2))]) (sealW m locs (.tup [.inl (.s (.list 3 (encs opE (appendD ⟨ss, cs⟩ t).1) false)), .inl (.s (.int .i64 (appendD ⟨ss, cs⟩ t).2))])) := callO_all (by rw [rAppendG_eq]; rfl)
attribute [go_sem] rAppendG_call rAppendG_callo

def sc_ref18_Append : SC := .seq (.reg [⟨some 2, .box 2, [.t 0], none⟩,
⟨some 4, .mv, [.k (.c (.s (.list 0 [] true)))], none⟩,
⟨some 5, .mv, [.k (.c (.s (.int .i64 0)))], none⟩]) (.seq (.reg [⟨some 15, .load 2 true, [.t 2], none⟩,
⟨some 16, .call 17, [.t 15], none⟩,
⟨some 14, .mv, [.t 16], none⟩,
⟨some 17, .ext 0, [.t 14], none⟩,
⟨some 18, .ext 1, [.t 14], none⟩,
⟨some 6, .alloc [.int .i64 0, .list 0 [] true, .int .i64 0], [], none⟩,
⟨none, .store 3 true, [.t 6, .t 17], none⟩,
⟨some 7, .mv, [.t 18], none⟩]) (.seq (.seq (.reg [⟨some 19, .mv, [.t 7], none⟩,
⟨some 20, .bin .neq, [.t 19, .k (.c (.s (.int .i64 0)))], none⟩]) (.cond (.t 20) (.seq (.reg [⟨some 21, .mv, [.t 7], none⟩,
⟨some 4, .mv, [.k (.c (.s (.list 0 [] true)))], none⟩,
⟨some 5, .mv, [.t 21], none⟩]) (.ret)) (.skip))) (.seq (.seq (.reg [⟨some 22, .mv, [.t 1], none⟩,
⟨some 23, .len true, [.t 22], none⟩,
⟨some 24, .bin .gtr, [.t 23, .k (.c (.s (.int .i64 1200)))], none⟩]) (.cond (.t 24) (.seq (.reg [⟨some 4, .mv, [.k (.c (.s (.list 0 [] true)))], none⟩,
⟨some 5, .mv, [.k (.c (.s (.int .i64 5)))], none⟩]) (.ret)) (.skip))) (.seq (.reg [⟨some 25, .mv, [.t 1], none⟩,
⟨some 26, .build [.int .i64 0, .str []] [(0, 1), (1, 1)], [.k (.c (.s (.int .i64 1))), .t 25], none⟩,
⟨some 8, .alloc [.int .i64 0, .str []], [], none⟩,
⟨none, .store 2 true, [.t 8, .t 26], none⟩]) (.seq (.seq (.reg [⟨some 27, .fadr 1, [.t 6], none⟩,
⟨some 28, .load 1 false, [.t 27], none⟩,
⟨some 29, .len false, [.t 28], none⟩,
⟨some 30, .bin .gtr, [.t 29, .k (.c (.s (.int .i64 0)))], none⟩]) (.cond (.t 30) (.reg [⟨some 31, .fadr 1, [.t 6], none⟩,
⟨some 32, .load 1 false, [.t 31], none⟩,
⟨some 33, .fadr 1, [.t 6], none⟩,
⟨some 34, .load 1 false, [.t 33], none⟩,
⟨some 35, .len false, [.t 34], none⟩,
⟨some 36, .bin .sub, [.t 35, .k (.c (.s (.int .i64 1)))], none⟩,
⟨some 37, .iadr 2, [.t 32, .t 36], none⟩,
⟨some 38, .fadr 0, [.t 37], none⟩,
⟨some 39, .load 1 false, [.t 38], none⟩,
⟨some 40, .bin .add, [.t 39, .k (.c (.s (.int .i64 1)))], none⟩,
⟨some 41, .fadr 0, [.t 8], none⟩,
⟨none, .store 1 false, [.t 41, .t 40], none⟩]) (.skip))) (.seq (.reg [⟨some 42, .fadr 0, [.t 6], none⟩,
⟨some 43, .load 1 false, [.t 42], none⟩,
⟨some 44, .load 2 true, [.t 8], none⟩,
⟨some 45, .call 53, [.t 43, .t 44], none⟩,
⟨some 9, .mv, [.t 45], none⟩]) (.seq (.reg [⟨some 47, .load 2 true, [.t 2], none⟩,
⟨some 48, .fadr 0, [.t 6], none⟩,
⟨some 49, .load 1 false, [.t 48], none⟩,
⟨some 50, .call 49, [.t 47, .t 49], none⟩,
⟨some 46, .mv, [.t 50], none⟩,
⟨some 51, .ext 0, [.t 46], none⟩,
⟨some 52, .ext 1, [.t 46], none⟩,
⟨some 10, .mv, [.t 51], none⟩,
⟨some 11, .mv, [.t 52], none⟩]) (.seq (.seq (.reg [⟨some 53, .fadr 2, [.t 6], none⟩,
⟨some 54, .load 1 false, [.t 53], none⟩,
⟨some 55, .mv, [.t 9], none⟩,
⟨some 56, .len false, [.t 55], none⟩,
⟨some 57, .bin .add, [.t 54, .t 56], none⟩,
⟨some 58, .mv, [.t 10], none⟩,
⟨some 59, .mv, [.t 11], none⟩,
⟨some 60, .bin .add, [.t 58, .t 59], none⟩,
⟨some 61, .bin .gtr, [.t 57, .t 60], none⟩,
⟨some 62, .mv, [.t 61], none⟩,
⟨some 63, .fadr 0, [.t 8], some (62, false)⟩,
⟨some 64, .load 1 false, [.t 63], some (62, false)⟩,
⟨some 65, .bin .gtr, [.t 64, .k (.c (.s (.int .i64 2147483647)))], some (62, false)⟩,
⟨some 66, .pick, [.t 62, .k (.c (.s (.bool true))), .t 65], none⟩]) (.cond (.t 66) (.seq (.reg [⟨some 4, .mv, [.k (.c (.s (.list 0 [] true)))], none⟩,
⟨some 5, .mv, [.k (.c (.s (.int .i64 10)))], none⟩]) (.ret)) (.skip))) (.seq (.reg [⟨some 12, .mv, [.k (.c (.s (.list 0 [] true)))], none⟩]) (.seq (.seq (.reg [⟨some 13, .mv, [.k (.c (.s (.int .i64 1)))], none⟩]) (.block 0 (.loop (.seq (.seq (.reg [⟨some 67, .mv, [.t 13], none⟩,
⟨some 68, .mv, [.t 9], none⟩,
⟨some 69, .len false, [.t 68], none⟩,
⟨some 70, .bin .lss, [.t 67, .t 69], none⟩]) (.cond (.t 70) (.skip) (.exit 0))) (.seq (.block 1 (.regD [⟨some 73, .mv, [.t 12], none⟩,
⟨some 74, .fadr 2, [.t 6], none⟩,
⟨some 75, .load 1 false, [.t 74], none⟩,
⟨some 76, .mv, [.t 13], none⟩,
⟨some 77, .bin .add, [.t 75, .t 76], none⟩,
⟨some 78, .mv, [.t 9], none⟩,
⟨some 79, .mv, [.t 13], none⟩,
⟨some 80, .iadr 1, [.t 78, .t 79], none⟩,
⟨some 81, .load 1 false, [.t 80], none⟩,
⟨some 82, .call 54, [.t 77, .t 81], none⟩,
⟨some 83, .bslice 3 1 [.bool false, .int .i64 0, .str []] [0], [.t 82], none⟩,
⟨some 84, .append false 3 32, [.t 73, .t 83], none⟩,
⟨some 12, .mv, [.t 84], none⟩] [])) (.reg [⟨some 71, .mv, [.t 13], none⟩,
⟨some 72, .bin .add, [.t 71, .k (.c (.s (.int .i64 1)))], none⟩,
⟨some 13, .mv, [.t 72], none⟩])))))) (.seq (.regD [⟨some 85, .mv, [.t 12], none⟩,
⟨some 86, .build [.bool false, .int .i64 0, .str []] [(0, 1)], [.k (.c (.s (.bool true)))], none⟩,
⟨some 87, .fadr 2, [.t 6], none⟩,
⟨some 88, .load 1 false, [.t 87], none⟩,
⟨some 89, .mv, [.t 9], none⟩,
⟨some 90, .iadr 1, [.t 89, .k (.c (.s (.int .i64 0)))], none⟩,
⟨some 91, .load 1 false, [.t 90], none⟩,
⟨some 92, .call 54, [.t 88, .t 91], none⟩,
⟨some 93, .bslice 3 2 [.bool false, .int .i64 0, .str []] [0, 1], [.t 86, .t 92], none⟩,
⟨some 94, .append false 3 32, [.t 85, .t 93], none⟩,
⟨some 12, .mv, [.t 94], none⟩] []) (.seq (.reg [⟨some 95, .mv, [.t 12], none⟩,
⟨some 96, .build [.bool false, .int .i64 0, .str []] [(0, 1)], [.k (.c (.s (.bool true)))], none⟩,
⟨some 97, .bslice 3 1 [.bool false, .int .i64 0, .str []] [0], [.t 96], none⟩,
⟨some 98, .append false 3 32, [.t 95, .t 97], none⟩,
⟨some 4, .mv, [.t 98], none⟩,
⟨some 5, .mv, [.k (.c (.s (.int .i64 0)))], none⟩]) (.ret)))))))))))))
noncomputable def G_ref18_Append : FuncId → Ab.Spec := addS (addS (addS (addS (noS) 17 (plain rScanG)) 53 (plain rSectorsG)) 49 (plain rAreaG)) 54 (plain rWriteG)
theorem G_ref18_Append_ok : ∀ f, Contract Try.prog f (G_ref18_Append f) := (addS_ok (addS_ok (addS_ok (addS_ok (noS_ok _) contract_ref18_Scan) contract_ref18_Sectors) contract_ref18_Area) contract_ref18_write)
theorem G21_17 : G_ref18_Append 17 = plain rScanG := by simp [G_ref18_Append, addS]
theorem G21_53 : G_ref18_Append 53 = plain rSectorsG := by simp [G_ref18_Append, addS]
theorem G21_49 : G_ref18_Append 49 = plain rAreaG := by simp [G_ref18_Append, addS]
theorem G21_54 : G_ref18_Append 54 = plain rWriteG := by simp [G_ref18_Append, addS]
set_option maxHeartbeats 16000000 in
set_option maxRecDepth 1000000 in
set_option linter.unusedSimpArgs false in
set_option linter.unusedVariables false in
theorem contract_ref18_Append : Contract Try.prog 21 (plain rAppendG) := by
  have hb : ∃ c, Try.f21.body = some c ∧ codeOk 99 c = true ∧ cCode Try.prog c = sc_ref18_Append := ⟨_, rfl, by kernel_rfl, by kernel_rfl⟩
  obtain ⟨c, hb1, hb2, hb3⟩ := hb
  refine contract_of (n := 2) G_ref18_Append_ok hB hD Try.func21 hb1 (by kernel_rfl) hb2 hb3 (rs := [.tmp 4, .tmp 5]) (by kernel_rfl) (by decide) ?_ ?_
  · intro args x h
    obtain ⟨y, hy, -⟩ := Option.map_eq_some_iff.1 h
    obtain ⟨⟨ss, cs, f, g, t⟩, rfl, -⟩ := specE_some hy
    rfl
  · intro args r hr
    obtain ⟨y, hy, rfl⟩ := Option.map_eq_some_iff.1 hr
    obtain ⟨⟨ss, cs, f, g, t⟩, rfl, hc, rfl⟩ := specE_some hy
    clear hr hy
    have hc : True := hc
    change awp _ _ (postQ _ (.v (.tup [.inl (.s (.list 3 (encs opE (appendD ⟨ss, cs⟩ t).1) false)), .inl (.s (.int .i64 (appendD ⟨ss, cs⟩ t).2))]))) _
    unfold rAppendG_enc sc_ref18_Append
    by_cases he : (scanD ⟨ss, cs⟩).2 = 0
    case neg =>
      have hap : appendD ⟨ss, cs⟩ t = ([], (scanD ⟨ss, cs⟩).2) := by unfold appendD; rw [if_pos he]
      rw [hap]
      simp (maxSteps := 4000000) only [↓exT_call G21_17, ↓exT_callo G21_17, ↓exT_calloG G21_17, ↓exT_call G21_53, ↓exT_callo G21_53, ↓exT_calloG G21_53, ↓exT_call G21_49, ↓exT_callo G21_49, ↓exT_calloG G21_49, ↓exT_call G21_54, ↓exT_callo G21_54, ↓exT_calloG G21_54, he, go_sem, Nat.reduceAdd, Nat.reduceSub, Nat.reduceMul, Nat.reduceEqDiff, Nat.reduceLeDiff, Nat.reduceLT, Nat.reduceBEq, Int.reduceLE, Int.reduceLT, Int.reduceToNat, Int.reduceNeg, Int.reduceAdd, Int.reduceSub, Int.reduceMul, ↓reduceIte]
    obtain ⟨k1, k2, k3, k4, k5, k6⟩ := scan_ok he
    simp only at k2
    by_cases hl : 1200 < t.length
    case pos =>
      have hap : appendD ⟨ss, cs⟩ t = ([], 5) := by unfold appendD; rw [if_neg (by simp [he]), if_pos hl]
      have hl' : 1200 < (t.length : Int) := by omega
      rw [hap]
      simp (maxSteps := 4000000) only [↓exT_call G21_17, ↓exT_callo G21_17, ↓exT_calloG G21_17, ↓exT_call G21_53, ↓exT_callo G21_53, ↓exT_calloG G21_53, ↓exT_call G21_49, ↓exT_callo G21_49, ↓exT_calloG G21_49, ↓exT_call G21_54, ↓exT_callo G21_54, ↓exT_calloG G21_54, he, hl', go_sem, Nat.reduceAdd, Nat.reduceSub, Nat.reduceMul, Nat.reduceEqDiff, Nat.reduceLeDiff, Nat.reduceLT, Nat.reduceBEq, Int.reduceLE, Int.reduceLT, Int.reduceToNat, Int.reduceNeg, Int.reduceAdd, Int.reduceSub, Int.reduceMul, ↓reduceIte]
    have hl' : ¬ 1200 < (t.length : Int) := by omega
    obtain ⟨q1, q2, q3, -, -⟩ := (right_iff _).1 k1
    simp only at q1 q2 q3
    have hap : appendD ⟨ss, cs⟩ t = if fromN ss.length (scanD ⟨ss, cs⟩).1.gen + halfN ss.length < (scanD ⟨ss, cs⟩).1.next + 1 + (bodyS (nextRec (scanD ⟨ss, cs⟩).1.recs t)).length ∨ (maxNum : Int) < lastNum (scanD ⟨ss, cs⟩).1.recs + 1 then ([], 10)
      else (appendOps (scanD ⟨ss, cs⟩).1.gen (scanD ⟨ss, cs⟩).1.next (nextRec (scanD ⟨ss, cs⟩).1.recs t), 0) := by
      unfold appendD; rw [if_neg (by simp [he]), if_neg hl]
    have hmn : maxNum = 2147483647 := rfl
    generalize hgg : (scanD ⟨ss, cs⟩).1.gen = G at *
    generalize hrr : (scanD ⟨ss, cs⟩).1.recs = rs at *
    generalize hnn : (scanD ⟨ss, cs⟩).1.next = nx at *
    have hff := from_fit (n := ss.length) (g := G) k2
    have hln := lastNum_le fun r hr => (k4 r hr).1
    have hnr : nextRec rs t = ⟨lastNum rs + 1, t⟩ := rfl
    have hbl : (bodyS (nextRec rs t)).length ≤ 39 := body_len_le (r := nextRec rs t) (by show t.length ≤ 1200; omega)
    rw [hnr] at hap hbl
    generalize hN : lastNum rs + 1 = N at *
    have hG1 : (G : Int) < 4294967296 := by omega
    have hN1 : 0 ≤ N ∧ N < 4294967296 := by omega
    have hN2 := hN1.1
    have hN3 := hN1.2
    have ht1 : t.length < 4000000 := by omega
    have hnum : (rs = [] ∧ N = 1) ∨ (rs ≠ [] ∧ (rs.getD (rs.length - 1) default).num + 1 = N) := by
      by_cases h : rs = []
      · exact .inl ⟨h, by rw [← hN, h]; rfl⟩
      · exact .inr ⟨h, by rw [← hN, lastNum_ne h]⟩
    have hSL0 : secs G ⟨N, t⟩ = headS G ⟨N, t⟩ :: bodyS ⟨N, t⟩ := rfl
    generalize hB : bodyS ⟨N, t⟩ = B at *
    generalize hH : headS G ⟨N, t⟩ = H at *
    have hfe : ∀ hif : ¬ (fromN ss.length G + halfN ss.length < nx + 1 + B.length ∨ (maxNum : Int) < N), appendD ⟨ss, cs⟩ t = (opsW (placed (nx + 1) B) ++ [opS, opW nx H, opS], 0) := fun hif => by
      rw [hap, if_neg hif]; unfold appendOps; rw [hB, hH]
    generalize hSL : secs G ⟨N, t⟩ = SL at *
    have hsl : SL.length = B.length + 1 := by rw [hSL0]; rfl
    have hs0 : SL.getD 0 default = H := by rw [hSL0]; rfl
    have hs1 : ∀ y, 1 ≤ y → SL.getD y default = B.getD (y - 1) default := fun y hy => by
      rw [hSL0]; obtain ⟨z, rfl⟩ : ∃ z, y = z + 1 := ⟨y - 1, by omega⟩
      rfl
    have hge0 : (encs strE SL).getD 0 [] = strE H := by rw [encs_getN (by omega), hs0]
    have hsz : (0 : Int) < (SL.length : Int) := by omega
    generalize appendD ⟨ss, cs⟩ t = AP at *
    generalize hA0 : fromN ss.length G = A0 at *
    generalize hHF : halfN ss.length = HF at *
    rcases hnum with ⟨h0, hN0⟩ | ⟨h0, hN0⟩
    · subst h0
      subst hN0
      have hz : ¬ (0 : Int) < ((0 : Nat) : Int) := by omega
      by_cases hx : A0 + HF < nx + 1 + B.length
      case pos =>
        rw [if_pos (.inl hx)] at hap
        have hx' : (A0 : Int) + (HF : Int) < (nx : Int) + (SL.length : Int) := by omega
        rw [hap]
        simp (maxSteps := 4000000) only [↓exT_call G21_17, ↓exT_callo G21_17, ↓exT_calloG G21_17, ↓exT_call G21_53, ↓exT_callo G21_53, ↓exT_calloG G21_53, ↓exT_call G21_49, ↓exT_callo G21_49, ↓exT_calloG G21_49, ↓exT_call G21_54, ↓exT_callo G21_54, ↓exT_calloG G21_54, he, hl', hgg, hrr, hnn, hG1, ht1, q1, q2, hSL, hA0, hHF, hz, hx', go_sem, Nat.reduceAdd, Nat.reduceSub, Nat.reduceMul, Nat.reduceEqDiff, Nat.reduceLeDiff, Nat.reduceLT, Nat.reduceBEq, Int.reduceLE, Int.reduceLT, Int.reduceToNat, Int.reduceNeg, Int.reduceAdd, Int.reduceSub, Int.reduceMul, ↓reduceIte]
        all_goals ((repeat' (first | with_reducible apply And.intro | intro)) <;> first | omega | (with_reducible rfl) | skip)
      have hx' : ¬ (A0 : Int) + (HF : Int) < (nx : Int) + (SL.length : Int) := by omega
      rw [hfe (by omega)]
      simp (maxSteps := 4000000) only [↓exT_call G21_17, ↓exT_callo G21_17, ↓exT_calloG G21_17, ↓exT_call G21_53, ↓exT_callo G21_53, ↓exT_calloG G21_53, ↓exT_call G21_49, ↓exT_callo G21_49, ↓exT_calloG G21_49, ↓exT_call G21_54, ↓exT_callo G21_54, ↓exT_calloG G21_54, he, hl', hgg, hrr, hnn, hG1, ht1, q1, q2, hSL, hA0, hHF, hz, hx', go_sem, Nat.reduceAdd, Nat.reduceSub, Nat.reduceMul, Nat.reduceEqDiff, Nat.reduceLeDiff, Nat.reduceLT, Nat.reduceBEq, Int.reduceLE, Int.reduceLT, Int.reduceToNat, Int.reduceNeg, Int.reduceAdd, Int.reduceSub, Int.reduceMul, ↓reduceIte]
      repeat (refine ⟨by omega, ?_⟩)
      refine awp_loopM (α := Nat) (fun y => [(6, .c (.ptr 6 0)), (9, .c (.s (.list 1 (encs strE SL) false))), (12, .c (.own 12 (y - 1))), (13, .c (.s (.int .i64 y)))])
        (fun y => [(6, .box [.s (.int .i64 G), .s (.list 2 [] false), .s (.int .i64 nx)]), (12, .row 3 (encs opE (opsW (placed (nx + 1) (B.take (y - 1))))))]) (fun y => SL.length - y) 1 (fun y => 1 ≤ y ∧ y ≤ SL.length) ⟨Nat.le_refl _, by omega⟩ (Weak.trans (Weak.nilSlot 12 12 3 rfl rfl) (Weak.meets ?_)) ?_
      · simp (maxSteps := 4000000) only [↓exT_call G21_17, ↓exT_callo G21_17, ↓exT_calloG G21_17, ↓exT_call G21_53, ↓exT_callo G21_53, ↓exT_calloG G21_53, ↓exT_call G21_49, ↓exT_callo G21_49, ↓exT_calloG G21_49, ↓exT_call G21_54, ↓exT_callo G21_54, ↓exT_calloG G21_54, go_sem, Nat.reduceAdd, Nat.reduceSub, Nat.reduceMul, Nat.reduceEqDiff, Nat.reduceLeDiff, Nat.reduceLT, Nat.reduceBEq, Int.reduceLE, Int.reduceLT, Int.reduceToNat, Int.reduceNeg, Int.reduceAdd, Int.reduceSub, Int.reduceMul, ↓reduceIte]
        exact ⟨rfl, rfl⟩
      rintro y ⟨hy1, hy2⟩
      have hpl : (opsW (placed (nx + 1) (B.take (y - 1)))).length = y - 1 := by simp [opsW, placed_len]; omega
      by_cases hyl : y < SL.length
      · have hyi : (y : Int) < (SL.length : Int) := by omega
        have htk := placed_take (a := nx + 1) (show y - 1 < B.length by omega)
        have ec : ((nx : Int) + (y : Int)) = ((nx + 1 + (y - 1) : Nat) : Int) := by omega
        have hsy := hs1 y hy1
        rw [show y - 1 + 1 = y by omega] at htk
        simp (maxSteps := 4000000) only [↓exT_call G21_17, ↓exT_callo G21_17, ↓exT_calloG G21_17, ↓exT_call G21_53, ↓exT_callo G21_53, ↓exT_calloG G21_53, ↓exT_call G21_49, ↓exT_callo G21_49, ↓exT_calloG G21_49, ↓exT_call G21_54, ↓exT_callo G21_54, ↓exT_calloG G21_54, hyi, hpl, ec, hsy, ops_one, go_sem, Nat.reduceAdd, Nat.reduceSub, Nat.reduceMul, Nat.reduceEqDiff, Nat.reduceLeDiff, Nat.reduceLT, Nat.reduceBEq, Int.reduceLE, Int.reduceLT, Int.reduceToNat, Int.reduceNeg, Int.reduceAdd, Int.reduceSub, Int.reduceMul, ↓reduceIte]
        refine ⟨by omega, by omega, by omega, y + 1, ⟨by omega, by omega⟩, by omega, ⟨?_, by omega⟩, ?_⟩
        · rw [opsW_len, List.length_append, placed_len, List.length_take]; simp; omega
        · rw [Nat.add_sub_cancel, ← htk]
      · have hyi : ¬ (y : Int) < (SL.length : Int) := by omega
        have htk : B.take (y - 1) = B := List.take_of_length_le (by omega)
        simp (maxSteps := 4000000) only [↓exT_call G21_17, ↓exT_callo G21_17, ↓exT_calloG G21_17, ↓exT_call G21_53, ↓exT_callo G21_53, ↓exT_calloG G21_53, ↓exT_call G21_49, ↓exT_callo G21_49, ↓exT_calloG G21_49, ↓exT_call G21_54, ↓exT_callo G21_54, ↓exT_calloG G21_54, hyi, hpl, htk, hge0, hsz, ops_two, ops_sync, go_sem, Nat.reduceAdd, Nat.reduceSub, Nat.reduceMul, Nat.reduceEqDiff, Nat.reduceLeDiff, Nat.reduceLT, Nat.reduceBEq, Int.reduceLE, Int.reduceLT, Int.reduceToNat, Int.reduceNeg, Int.reduceAdd, Int.reduceSub, Int.reduceMul, ↓reduceIte]
        have hpb : (opsW (placed (nx + 1) B)).length = B.length := by rw [opsW_len, placed_len]
        refine ⟨by omega, by omega, by omega, ?_⟩
        simp
    · have h0l : rs.length ≠ 0 := fun e => h0 (List.length_eq_zero_iff.1 e)
      have hz : (0 : Int) < (rs.length : Int) := by omega
      have hll := k4 _ (mem_getD (l := rs) (i := rs.length - 1) (by omega))
      have eix : ((rs.length : Int) - 1).toNat = rs.length - 1 := by omega
      have hge : (encs recE rs).getD (rs.length - 1) [] = recE (rs.getD (rs.length - 1) default) := encs_getN (by omega)
      have hix : (0 : Int) ≤ (rs.length : Int) - 1 ∧ (rs.length : Int) - 1 < (rs.length : Int) := by omega
      have hrl : rs.length ≤ 300 := by omega
      by_cases hx : A0 + HF < nx + 1 + B.length
      case pos =>
        rw [if_pos (.inl hx)] at hap
        have hx' : (A0 : Int) + (HF : Int) < (nx : Int) + (SL.length : Int) := by omega
        rw [hap]
        simp (maxSteps := 4000000) only [↓exT_call G21_17, ↓exT_callo G21_17, ↓exT_calloG G21_17, ↓exT_call G21_53, ↓exT_callo G21_53, ↓exT_calloG G21_53, ↓exT_call G21_49, ↓exT_callo G21_49, ↓exT_calloG G21_49, ↓exT_call G21_54, ↓exT_callo G21_54, ↓exT_calloG G21_54, he, hl', hgg, hrr, hnn, hG1, ht1, q1, q2, hSL, hA0, hHF, hz, hx', hix.1, hix.2, eix, hge, hN0, hN2, hN3, go_sem, Nat.reduceAdd, Nat.reduceSub, Nat.reduceMul, Nat.reduceEqDiff, Nat.reduceLeDiff, Nat.reduceLT, Nat.reduceBEq, Int.reduceLE, Int.reduceLT, Int.reduceToNat, Int.reduceNeg, Int.reduceAdd, Int.reduceSub, Int.reduceMul, ↓reduceIte]
        all_goals ((repeat' (first | with_reducible apply And.intro | intro)) <;> first | omega | (with_reducible rfl) | skip)
      have hx' : ¬ (A0 : Int) + (HF : Int) < (nx : Int) + (SL.length : Int) := by omega
      by_cases hmx : (maxNum : Int) < N
      case pos =>
        rw [if_pos (.inr hmx)] at hap
        have hmx' : 2147483647 < N := by omega
        rw [hap]
        simp (maxSteps := 4000000) only [↓exT_call G21_17, ↓exT_callo G21_17, ↓exT_calloG G21_17, ↓exT_call G21_53, ↓exT_callo G21_53, ↓exT_calloG G21_53, ↓exT_call G21_49, ↓exT_callo G21_49, ↓exT_calloG G21_49, ↓exT_call G21_54, ↓exT_callo G21_54, ↓exT_calloG G21_54, he, hl', hgg, hrr, hnn, hG1, ht1, q1, q2, hSL, hA0, hHF, hz, hx', hix.1, hix.2, eix, hge, hN0, hN2, hN3, hmx', go_sem, Nat.reduceAdd, Nat.reduceSub, Nat.reduceMul, Nat.reduceEqDiff, Nat.reduceLeDiff, Nat.reduceLT, Nat.reduceBEq, Int.reduceLE, Int.reduceLT, Int.reduceToNat, Int.reduceNeg, Int.reduceAdd, Int.reduceSub, Int.reduceMul, ↓reduceIte]
        all_goals ((repeat' (first | with_reducible apply And.intro | intro)) <;> first | omega | (with_reducible rfl) | skip)
      have hmx' : ¬ 2147483647 < N := by omega
      rw [hfe (by omega)]
      simp (maxSteps := 4000000) only [↓exT_call G21_17, ↓exT_callo G21_17, ↓exT_calloG G21_17, ↓exT_call G21_53, ↓exT_callo G21_53, ↓exT_calloG G21_53, ↓exT_call G21_49, ↓exT_callo G21_49, ↓exT_calloG G21_49, ↓exT_call G21_54, ↓exT_callo G21_54, ↓exT_calloG G21_54, he, hl', hgg, hrr, hnn, hG1, ht1, q1, q2, hSL, hA0, hHF, hz, hx', hix.1, hix.2, eix, hge, hN0, hN2, hN3, hmx', go_sem, Nat.reduceAdd, Nat.reduceSub, Nat.reduceMul, Nat.reduceEqDiff, Nat.reduceLeDiff, Nat.reduceLT, Nat.reduceBEq, Int.reduceLE, Int.reduceLT, Int.reduceToNat, Int.reduceNeg, Int.reduceAdd, Int.reduceSub, Int.reduceMul, ↓reduceIte]
      repeat (refine ⟨by omega, ?_⟩)
      refine awp_loopM (α := Nat) (fun y => [(6, .c (.ptr 6 0)), (9, .c (.s (.list 1 (encs strE SL) false))), (12, .c (.own 12 (y - 1))), (13, .c (.s (.int .i64 y)))])
        (fun y => [(6, .box [.s (.int .i64 G), .s (.list 2 (encs recE rs) false), .s (.int .i64 nx)]), (12, .row 3 (encs opE (opsW (placed (nx + 1) (B.take (y - 1))))))]) (fun y => SL.length - y) 1 (fun y => 1 ≤ y ∧ y ≤ SL.length) ⟨Nat.le_refl _, by omega⟩ (Weak.trans (Weak.nilSlot 12 12 3 rfl rfl) (Weak.meets ?_)) ?_
      · simp (maxSteps := 4000000) only [↓exT_call G21_17, ↓exT_callo G21_17, ↓exT_calloG G21_17, ↓exT_call G21_53, ↓exT_callo G21_53, ↓exT_calloG G21_53, ↓exT_call G21_49, ↓exT_callo G21_49, ↓exT_calloG G21_49, ↓exT_call G21_54, ↓exT_callo G21_54, ↓exT_calloG G21_54, go_sem, Nat.reduceAdd, Nat.reduceSub, Nat.reduceMul, Nat.reduceEqDiff, Nat.reduceLeDiff, Nat.reduceLT, Nat.reduceBEq, Int.reduceLE, Int.reduceLT, Int.reduceToNat, Int.reduceNeg, Int.reduceAdd, Int.reduceSub, Int.reduceMul, ↓reduceIte]
        exact ⟨rfl, rfl⟩
      rintro y ⟨hy1, hy2⟩
      have hpl : (opsW (placed (nx + 1) (B.take (y - 1)))).length = y - 1 := by simp [opsW, placed_len]; omega
      by_cases hyl : y < SL.length
      · have hyi : (y : Int) < (SL.length : Int) := by omega
        have htk := placed_take (a := nx + 1) (show y - 1 < B.length by omega)
        have ec : ((nx : Int) + (y : Int)) = ((nx + 1 + (y - 1) : Nat) : Int) := by omega
        have hsy := hs1 y hy1
        rw [show y - 1 + 1 = y by omega] at htk
        simp (maxSteps := 4000000) only [↓exT_call G21_17, ↓exT_callo G21_17, ↓exT_calloG G21_17, ↓exT_call G21_53, ↓exT_callo G21_53, ↓exT_calloG G21_53, ↓exT_call G21_49, ↓exT_callo G21_49, ↓exT_calloG G21_49, ↓exT_call G21_54, ↓exT_callo G21_54, ↓exT_calloG G21_54, hyi, hpl, ec, hsy, ops_one, go_sem, Nat.reduceAdd, Nat.reduceSub, Nat.reduceMul, Nat.reduceEqDiff, Nat.reduceLeDiff, Nat.reduceLT, Nat.reduceBEq, Int.reduceLE, Int.reduceLT, Int.reduceToNat, Int.reduceNeg, Int.reduceAdd, Int.reduceSub, Int.reduceMul, ↓reduceIte]
        refine ⟨by omega, by omega, by omega, y + 1, ⟨by omega, by omega⟩, by omega, ⟨?_, by omega⟩, ?_⟩
        · rw [opsW_len, List.length_append, placed_len, List.length_take]; simp; omega
        · rw [Nat.add_sub_cancel, ← htk]
      · have hyi : ¬ (y : Int) < (SL.length : Int) := by omega
        have htk : B.take (y - 1) = B := List.take_of_length_le (by omega)
        simp (maxSteps := 4000000) only [↓exT_call G21_17, ↓exT_callo G21_17, ↓exT_calloG G21_17, ↓exT_call G21_53, ↓exT_callo G21_53, ↓exT_calloG G21_53, ↓exT_call G21_49, ↓exT_callo G21_49, ↓exT_calloG G21_49, ↓exT_call G21_54, ↓exT_callo G21_54, ↓exT_calloG G21_54, hyi, hpl, htk, hge0, hsz, ops_two, ops_sync, go_sem, Nat.reduceAdd, Nat.reduceSub, Nat.reduceMul, Nat.reduceEqDiff, Nat.reduceLeDiff, Nat.reduceLT, Nat.reduceBEq, Int.reduceLE, Int.reduceLT, Int.reduceToNat, Int.reduceNeg, Int.reduceAdd, Int.reduceSub, Int.reduceMul, ↓reduceIte]
        have hpb : (opsW (placed (nx + 1) B)).length = B.length := by rw [opsW_len, placed_len]
        refine ⟨by omega, by omega, by omega, ?_⟩
        simp

end Go.Proofs.Ytniioedflegdkaa

/- The document's functions on records, sixth part: a renewal. -/
namespace Go.Proofs.Ytniioedflegdkaa
open Go Go.Ab Go.Proofs Go.Fs
def rRenewG_enc : (List Bs) × (List Wr) × (Bool) × (Bool) × (List Rec) × (Bool) → List V := fun ⟨ss, cs, f, g, l, h⟩ => [.agg [.s (.list 1 (encs strE ss) f), .s (.list 2 (encs wrE cs) g)], .c (.s (.list 2 (encs recE l) h))]
theorem rRenewG_inj : ∀ x y, rRenewG_enc x = rRenewG_enc y → x = y := by
  rintro ⟨ss, cs, f, g, l, h⟩ ⟨ss2, cs2, f2, g2, l2, h2⟩ h
  simp only [rRenewG_enc, List.cons.injEq, V.c.injEq, V.agg.injEq, C.s.injEq, S.list.injEq, S.str.injEq, S.int.injEq, S.bool.injEq, S.fn.injEq, S.cref.injEq, strE_inj, true_and, and_true, wrE_inj, recE_inj] at h
  simp_all
noncomputable def rRenewG : List V → Option (V) := specE rRenewG_enc (fun ⟨ss, cs, f, g, l, h⟩ => l.length < 4000000) (fun ⟨ss, cs, f, g, l, h⟩ => .tup [.inl (.s (.list 3 (encs opE (renewD ⟨ss, cs⟩ l).1) false)), .inl (.s (.int .i64 (renewD ⟨ss, cs⟩ l).2))])
theorem rRenewG_eq {ss : List Bs} {cs : List Wr} {f : Bool} {g : Bool} {l : List Rec} {h : Bool} [Decidable (l.length < 4000000)] : rRenewG [.agg [.s (.list 1 (encs strE ss) f), .s (.list 2 (encs wrE cs) g)], .c (.s (.list 2 (encs recE l) h))] = if l.length < 4000000 then some (.tup [.inl (.s (.list 3 (encs opE (renewD ⟨ss, cs⟩ l).1) false)), .inl (.s (.int .i64 (renewD ⟨ss, cs⟩ l).2))]) else none := specE_eq rRenewG_inj (ss, cs, f, g, l, h)
theorem rRenewG_call {ss : List Bs} {cs : List Wr} {f : Bool} {g : Bool} {l : List Rec} {h : Bool} {gt : Bool} {K : V → Prop} : callE rRenewG [.agg [.s (.list 1 (encs strE ss) f), .s (.list 2 (encs wrE cs) g)], .c (.s (.list 2 (encs recE l) h))] gt K = ((gt = true → l.length < 4000000) ∧ bindV (ifV gt (.tup [.inl (.s (.list 3 (encs opE (renewD ⟨ss, cs⟩ l).1) false)), .inl (.s (.int .i64 (renewD ⟨ss, cs⟩ l).2))])) K) := by
  have := Classical.propDecidable (l.length < 4000000)
  exact callE_of rRenewG_eq
theorem rRenewG_callo {ss : List Bs} {cs : List Wr} {f : Bool} {g : Bool} {l : List Rec} {h : Bool} {m : Nat → Option Ab.Obj} {locs : List Nat} {K : V → (Nat → Option Ab.Obj) → Prop} : callO rRenewG (some [.agg [.s (.list 1 (encs strE ss) f), .s (.list 2 (encs wrE cs) g)], .c (.s (.list 2 (encs recE l) h))]) m locs K = ((l.length < 4000000) ∧ K (.tup [.inl (.s (.list 3 (encs opE (renewD ⟨ss, cs⟩ l).1) false)), .inl (.s (.int .i64 (renewD ⟨ss, cs⟩ l).2))]) (sealW m locs (.tup [.inl (.s (.list 3 (encs opE (renewD ⟨ss, cs⟩ l).1) false)), .inl (.s (.int .i64 (renewD ⟨ss, cs⟩ l).2))]))) := by
  have := Classical.propDecidable (l.length < 4000000)
  exact callO_of rRenewG_eq
attribute [go_sem] rRenewG_call rRenewG_callo

def sc_ref18_Renew : SC := .seq (.reg [⟨some 2, .box 2, [.t 0], none⟩,
⟨some 4, .mv, [.k (.c (.s (.list 0 [] true)))], none⟩,
⟨some 5, .mv, [.k (.c (.s (.int .i64 0)))], none⟩]) (.seq (.reg [⟨some 18, .load 2 true, [.t 2], none⟩,
⟨some 19, .call 17, [.t 18], none⟩,
⟨some 17, .mv, [.t 19], none⟩,
⟨some 20, .ext 0, [.t 17], none⟩,
⟨some 21, .ext 1, [.t 17], none⟩,
⟨some 6, .alloc [.int .i64 0, .list 0 [] true, .int .i64 0], [], none⟩,
⟨none, .store 3 true, [.t 6, .t 20], none⟩,
⟨some 7, .mv, [.t 21], none⟩]) (.seq (.seq (.reg [⟨some 22, .mv, [.t 7], none⟩,
⟨some 23, .bin .neq, [.t 22, .k (.c (.s (.int .i64 0)))], none⟩]) (.cond (.t 23) (.seq (.reg [⟨some 24, .mv, [.t 7], none⟩,
⟨some 4, .mv, [.k (.c (.s (.list 0 [] true)))], none⟩,
⟨some 5, .mv, [.t 24], none⟩]) (.ret)) (.skip))) (.seq (.seq (.reg [⟨some 25, .mv, [.t 1], none⟩,
⟨some 26, .len false, [.t 25], none⟩,
⟨some 27, .bin .eql, [.t 26, .k (.c (.s (.int .i64 0)))], none⟩]) (.cond (.t 27) (.seq (.reg [⟨some 4, .mv, [.k (.c (.s (.list 0 [] true)))], none⟩,
⟨some 5, .mv, [.k (.c (.s (.int .i64 1)))], none⟩]) (.ret)) (.skip))) (.seq (.reg [⟨some 8, .mv, [.k (.c (.s (.bool false)))], none⟩]) (.seq (.seq (.reg [⟨some 9, .mv, [.k (.c (.s (.int .i64 0)))], none⟩]) (.block 0 (.loop (.seq (.seq (.reg [⟨some 28, .mv, [.t 9], none⟩,
⟨some 29, .mv, [.t 1], none⟩,
⟨some 30, .len false, [.t 29], none⟩,
⟨some 31, .bin .lss, [.t 28, .t 30], none⟩]) (.cond (.t 31) (.skip) (.exit 0))) (.seq (.block 1 (.seq (.seq (.regD [⟨some 34, .mv, [.t 1], none⟩,
⟨some 35, .mv, [.t 9], none⟩,
⟨some 36, .iadr 2, [.t 34, .t 35], none⟩,
⟨some 37, .fadr 0, [.t 36], none⟩,
⟨some 38, .load 1 false, [.t 37], none⟩,
⟨some 39, .bin .lss, [.t 38, .k (.c (.s (.int .i64 1)))], none⟩,
⟨some 40, .mv, [.t 39], none⟩,
⟨some 41, .mv, [.t 1], some (40, false)⟩,
⟨some 42, .mv, [.t 9], some (40, false)⟩,
⟨some 43, .iadr 2, [.t 41, .t 42], some (40, false)⟩,
⟨some 44, .fadr 0, [.t 43], some (40, false)⟩,
⟨some 45, .load 1 false, [.t 44], some (40, false)⟩,
⟨some 46, .bin .gtr, [.t 45, .k (.c (.s (.int .i64 2147483647)))], some (40, false)⟩,
⟨some 47, .pick, [.t 40, .k (.c (.s (.bool true))), .t 46], none⟩,
⟨some 48, .mv, [.t 47], none⟩,
⟨some 49, .mv, [.t 9], some (48, false)⟩,
⟨some 50, .bin .gtr, [.t 49, .k (.c (.s (.int .i64 0)))], some (48, false)⟩,
⟨some 51, .mv, [.t 50], some (48, false)⟩,
⟨some 52, .mv, [.t 1], some (51, true)⟩,
⟨some 53, .mv, [.t 9], some (51, true)⟩,
⟨some 54, .iadr 2, [.t 52, .t 53], some (51, true)⟩,
⟨some 55, .fadr 0, [.t 54], some (51, true)⟩,
⟨some 56, .load 1 false, [.t 55], some (51, true)⟩,
⟨some 57, .mv, [.t 1], some (51, true)⟩,
⟨some 58, .mv, [.t 9], some (51, true)⟩,
⟨some 59, .bin .sub, [.t 58, .k (.c (.s (.int .i64 1)))], some (51, true)⟩,
⟨some 60, .iadr 2, [.t 57, .t 59], some (51, true)⟩,
⟨some 61, .fadr 0, [.t 60], some (51, true)⟩,
⟨some 62, .load 1 false, [.t 61], some (51, true)⟩,
⟨some 63, .bin .add, [.t 62, .k (.c (.s (.int .i64 1)))], some (51, true)⟩,
⟨some 64, .bin .neq, [.t 56, .t 63], some (51, true)⟩,
⟨some 65, .pick, [.t 51, .t 64, .k (.c (.s (.bool false)))], some (48, false)⟩,
⟨some 66, .pick, [.t 48, .k (.c (.s (.bool true))), .t 65], none⟩] []) (.cond (.t 66) (.seq (.reg [⟨some 4, .mv, [.k (.c (.s (.list 0 [] true)))], none⟩,
⟨some 5, .mv, [.k (.c (.s (.int .i64 1)))], none⟩]) (.ret)) (.skip))) (.reg [⟨some 67, .mv, [.t 8], none⟩,
⟨some 68, .mv, [.t 67], none⟩,
⟨some 69, .mv, [.t 1], some (68, false)⟩,
⟨some 70, .mv, [.t 9], some (68, false)⟩,
⟨some 71, .iadr 2, [.t 69, .t 70], some (68, false)⟩,
⟨some 72, .fadr 1, [.t 71], some (68, false)⟩,
⟨some 73, .load 1 false, [.t 72], some (68, false)⟩,
⟨some 74, .len true, [.t 73], some (68, false)⟩,
⟨some 75, .bin .gtr, [.t 74, .k (.c (.s (.int .i64 1200)))], some (68, false)⟩,
⟨some 76, .pick, [.t 68, .k (.c (.s (.bool true))), .t 75], none⟩,
⟨some 8, .mv, [.t 76], none⟩]))) (.reg [⟨some 32, .mv, [.t 9], none⟩,
⟨some 33, .bin .add, [.t 32, .k (.c (.s (.int .i64 1)))], none⟩,
⟨some 9, .mv, [.t 33], none⟩])))))) (.seq (.seq (.reg [⟨some 77, .mv, [.t 8], none⟩]) (.cond (.t 77) (.seq (.reg [⟨some 4, .mv, [.k (.c (.s (.list 0 [] true)))], none⟩,
⟨some 5, .mv, [.k (.c (.s (.int .i64 5)))], none⟩]) (.ret)) (.skip))) (.seq (.reg [⟨some 78, .fadr 0, [.t 6], none⟩,
⟨some 79, .load 1 false, [.t 78], none⟩,
⟨some 80, .bin .add, [.t 79, .k (.c (.s (.int .i64 1)))], none⟩,
⟨some 10, .mv, [.t 80], none⟩]) (.seq (.reg [⟨some 82, .load 2 true, [.t 2], none⟩,
⟨some 83, .mv, [.t 10], none⟩,
⟨some 84, .call 49, [.t 82, .t 83], none⟩,
⟨some 81, .mv, [.t 84], none⟩,
⟨some 85, .ext 0, [.t 81], none⟩,
⟨some 86, .ext 1, [.t 81], none⟩,
⟨some 11, .mv, [.t 85], none⟩,
⟨some 12, .mv, [.t 86], none⟩]) (.seq (.reg [⟨some 13, .mv, [.k (.c (.s (.list 0 [] true)))], none⟩]) (.seq (.seq (.reg [⟨some 14, .mv, [.k (.c (.s (.int .i64 0)))], none⟩]) (.block 2 (.loop (.seq (.seq (.reg [⟨some 87, .mv, [.t 14], none⟩,
⟨some 88, .mv, [.t 1], none⟩,
⟨some 89, .len false, [.t 88], none⟩,
⟨some 90, .bin .lss, [.t 87, .t 89], none⟩]) (.cond (.t 90) (.skip) (.exit 2))) (.seq (.block 3 (.seq (.reg [⟨some 93, .mv, [.t 10], none⟩,
⟨some 94, .mv, [.t 1], none⟩,
⟨some 95, .mv, [.t 14], none⟩,
⟨some 96, .iadr 2, [.t 94, .t 95], none⟩,
⟨some 97, .load 2 true, [.t 96], none⟩,
⟨some 98, .call 53, [.t 93, .t 97], none⟩,
⟨some 15, .mv, [.t 98], none⟩]) (.seq (.reg [⟨some 16, .mv, [.k (.c (.s (.int .i64 0)))], none⟩]) (.block 4 (.loop (.seq (.seq (.reg [⟨some 99, .mv, [.t 16], none⟩,
⟨some 100, .mv, [.t 15], none⟩,
⟨some 101, .len false, [.t 100], none⟩,
⟨some 102, .bin .lss, [.t 99, .t 101], none⟩]) (.cond (.t 102) (.skip) (.exit 4))) (.seq (.block 5 (.reg [⟨some 105, .mv, [.t 13], none⟩,
⟨some 106, .mv, [.t 11], none⟩,
⟨some 107, .mv, [.t 13], none⟩,
⟨some 108, .len false, [.t 107], none⟩,
⟨some 109, .bin .add, [.t 106, .t 108], none⟩,
⟨some 110, .mv, [.t 15], none⟩,
⟨some 111, .mv, [.t 16], none⟩,
⟨some 112, .iadr 1, [.t 110, .t 111], none⟩,
⟨some 113, .load 1 false, [.t 112], none⟩,
⟨some 114, .call 54, [.t 109, .t 113], none⟩,
⟨some 115, .bslice 3 1 [.bool false, .int .i64 0, .str []] [0], [.t 114], none⟩,
⟨some 116, .append false 3 32, [.t 105, .t 115], none⟩,
⟨some 13, .mv, [.t 116], none⟩])) (.reg [⟨some 103, .mv, [.t 16], none⟩,
⟨some 104, .bin .add, [.t 103, .k (.c (.s (.int .i64 1)))], none⟩,
⟨some 16, .mv, [.t 104], none⟩])))))))) (.reg [⟨some 91, .mv, [.t 14], none⟩,
⟨some 92, .bin .add, [.t 91, .k (.c (.s (.int .i64 1)))], none⟩,
⟨some 14, .mv, [.t 92], none⟩])))))) (.seq (.seq (.reg [⟨some 117, .mv, [.t 13], none⟩,
⟨some 118, .len false, [.t 117], none⟩,
⟨some 119, .mv, [.t 12], none⟩,
⟨some 120, .bin .gtr, [.t 118, .t 119], none⟩,
⟨some 121, .mv, [.t 120], none⟩,
⟨some 122, .mv, [.t 10], some (121, false)⟩,
⟨some 123, .bin .gtr, [.t 122, .k (.c (.s (.int .i64 2147483647)))], some (121, false)⟩,
⟨some 124, .pick, [.t 121, .k (.c (.s (.bool true))), .t 123], none⟩]) (.cond (.t 124) (.seq (.reg [⟨some 4, .mv, [.k (.c (.s (.list 0 [] true)))], none⟩,
⟨some 5, .mv, [.k (.c (.s (.int .i64 10)))], none⟩]) (.ret)) (.skip))) (.seq (.seq (.reg [⟨some 125, .mv, [.t 13], none⟩,
⟨some 126, .len false, [.t 125], none⟩,
⟨some 127, .mv, [.t 12], none⟩,
⟨some 128, .bin .lss, [.t 126, .t 127], none⟩]) (.cond (.t 128) (.reg [⟨some 129, .mv, [.t 13], none⟩,
⟨some 130, .mv, [.t 11], none⟩,
⟨some 131, .mv, [.t 13], none⟩,
⟨some 132, .len false, [.t 131], none⟩,
⟨some 133, .bin .add, [.t 130, .t 132], none⟩,
⟨some 134, .call 57, [.k (.c (.s (.str [])))], none⟩,
⟨some 135, .call 54, [.t 133, .t 134], none⟩,
⟨some 136, .bslice 3 1 [.bool false, .int .i64 0, .str []] [0], [.t 135], none⟩,
⟨some 137, .append false 3 32, [.t 129, .t 136], none⟩,
⟨some 13, .mv, [.t 137], none⟩]) (.skip))) (.seq (.reg [⟨some 138, .mv, [.t 13], none⟩,
⟨some 139, .build [.bool false, .int .i64 0, .str []] [(0, 1)], [.k (.c (.s (.bool true)))], none⟩,
⟨some 140, .mv, [.t 10], none⟩,
⟨some 141, .call 48, [.t 140], none⟩,
⟨some 142, .call 54, [.k (.c (.s (.int .i64 0))), .t 141], none⟩,
⟨some 143, .bslice 3 2 [.bool false, .int .i64 0, .str []] [0, 1], [.t 139, .t 142], none⟩,
⟨some 144, .append false 3 32, [.t 138, .t 143], none⟩,
⟨some 13, .mv, [.t 144], none⟩]) (.seq (.reg [⟨some 145, .mv, [.t 13], none⟩,
⟨some 146, .build [.bool false, .int .i64 0, .str []] [(0, 1)], [.k (.c (.s (.bool true)))], none⟩,
⟨some 147, .bslice 3 1 [.bool false, .int .i64 0, .str []] [0], [.t 146], none⟩,
⟨some 148, .append false 3 32, [.t 145, .t 147], none⟩,
⟨some 4, .mv, [.t 148], none⟩,
⟨some 5, .mv, [.k (.c (.s (.int .i64 0)))], none⟩]) (.ret)))))))))))))))
noncomputable def G_ref18_Renew : FuncId → Ab.Spec := addS (addS (addS (addS (addS (addS (noS) 17 (plain rScanG)) 49 (plain rAreaG)) 53 (plain rSectorsG)) 54 (plain rWriteG)) 57 (plain rFillG)) 48 (plain rMarkG)
theorem G_ref18_Renew_ok : ∀ f, Contract Try.prog f (G_ref18_Renew f) := (addS_ok (addS_ok (addS_ok (addS_ok (addS_ok (addS_ok (noS_ok _) contract_ref18_Scan) contract_ref18_Area) contract_ref18_Sectors) contract_ref18_write) contract_ref18_Fill) contract_ref18_Mark)
theorem G25_17 : G_ref18_Renew 17 = plain rScanG := by simp [G_ref18_Renew, addS]
theorem G25_49 : G_ref18_Renew 49 = plain rAreaG := by simp [G_ref18_Renew, addS]
theorem G25_53 : G_ref18_Renew 53 = plain rSectorsG := by simp [G_ref18_Renew, addS]
theorem G25_54 : G_ref18_Renew 54 = plain rWriteG := by simp [G_ref18_Renew, addS]
theorem G25_57 : G_ref18_Renew 57 = plain rFillG := by simp [G_ref18_Renew, addS]
theorem G25_48 : G_ref18_Renew 48 = plain rMarkG := by simp [G_ref18_Renew, addS]
set_option maxHeartbeats 16000000 in
set_option maxRecDepth 1000000 in
set_option linter.unusedSimpArgs false in
set_option linter.unusedVariables false in
theorem contract_ref18_Renew : Contract Try.prog 25 (plain rRenewG) := by
  have hb : ∃ c, Try.f25.body = some c ∧ codeOk 149 c = true ∧ cCode Try.prog c = sc_ref18_Renew := ⟨_, rfl, by kernel_rfl, by kernel_rfl⟩
  obtain ⟨c, hb1, hb2, hb3⟩ := hb
  refine contract_of (n := 2) G_ref18_Renew_ok hB hD Try.func25 hb1 (by kernel_rfl) hb2 hb3 (rs := [.tmp 4, .tmp 5]) (by kernel_rfl) (by decide) ?_ ?_
  · intro args x h
    obtain ⟨y, hy, -⟩ := Option.map_eq_some_iff.1 h
    obtain ⟨⟨ss, cs, f, g, l, h⟩, rfl, -⟩ := specE_some hy
    rfl
  · intro args r hr
    obtain ⟨y, hy, rfl⟩ := Option.map_eq_some_iff.1 hr
    obtain ⟨⟨ss, cs, f, g, l, h⟩, rfl, hc, rfl⟩ := specE_some hy
    clear hr hy
    have hc : l.length < 4000000 := hc
    change awp _ _ (postQ _ (.v (.tup [.inl (.s (.list 3 (encs opE (renewD ⟨ss, cs⟩ l).1) false)), .inl (.s (.int .i64 (renewD ⟨ss, cs⟩ l).2))]))) _
    unfold rRenewG_enc sc_ref18_Renew
    have hll := hc
    rw [renew_eq]
    by_cases he : (scanD ⟨ss, cs⟩).2 = 0
    case neg =>
      rw [if_pos he]
      simp (maxSteps := 4000000) only [↓exT_call G25_17, ↓exT_callo G25_17, ↓exT_calloG G25_17, ↓exT_call G25_49, ↓exT_callo G25_49, ↓exT_calloG G25_49, ↓exT_call G25_53, ↓exT_callo G25_53, ↓exT_calloG G25_53, ↓exT_call G25_54, ↓exT_callo G25_54, ↓exT_calloG G25_54, ↓exT_call G25_57, ↓exT_callo G25_57, ↓exT_calloG G25_57, ↓exT_call G25_48, ↓exT_callo G25_48, ↓exT_calloG G25_48, he, go_sem, Nat.reduceAdd, Nat.reduceSub, Nat.reduceMul, Nat.reduceEqDiff, Nat.reduceLeDiff, Nat.reduceLT, Nat.reduceBEq, Int.reduceLE, Int.reduceLT, Int.reduceToNat, Int.reduceNeg, Int.reduceAdd, Int.reduceSub, Int.reduceMul, ↓reduceIte]
    rw [if_neg (by simp [he])]
    by_cases h0 : l = []
    case pos =>
      have hse : soundE l = 1 := by unfold soundE; rw [if_pos (.inl h0)]
      rw [hse, if_pos (by simp)]
      have hz : (l.length : Int) = 0 := by rw [h0]; rfl
      simp (maxSteps := 4000000) only [↓exT_call G25_17, ↓exT_callo G25_17, ↓exT_calloG G25_17, ↓exT_call G25_49, ↓exT_callo G25_49, ↓exT_calloG G25_49, ↓exT_call G25_53, ↓exT_callo G25_53, ↓exT_calloG G25_53, ↓exT_call G25_54, ↓exT_callo G25_54, ↓exT_calloG G25_54, ↓exT_call G25_57, ↓exT_callo G25_57, ↓exT_calloG G25_57, ↓exT_call G25_48, ↓exT_callo G25_48, ↓exT_calloG G25_48, he, hz, go_sem, Nat.reduceAdd, Nat.reduceSub, Nat.reduceMul, Nat.reduceEqDiff, Nat.reduceLeDiff, Nat.reduceLT, Nat.reduceBEq, Int.reduceLE, Int.reduceLT, Int.reduceToNat, Int.reduceNeg, Int.reduceAdd, Int.reduceSub, Int.reduceMul, ↓reduceIte]
    have hl0 : l.length ≠ 0 := fun e => h0 (List.length_eq_zero_iff.1 e)
    have hl0' : ¬ (l.length : Int) = 0 := by omega
    obtain ⟨k1, k2, k3, k4, k5, k6⟩ := scan_ok he
    simp only at k2
    obtain ⟨q1, q2, q3, -, -⟩ := (right_iff _).1 k1
    simp only at q1 q2 q3
    have hmn : maxNum = 2147483647 := rfl
    generalize hgg : (scanD ⟨ss, cs⟩).1.gen = G at *
    generalize hrr : (scanD ⟨ss, cs⟩).1.recs = rs at *
    generalize hnn : (scanD ⟨ss, cs⟩).1.next = nx at *
    have hff := from_fit (n := ss.length) (g := G + 1) k2
    have hG1 : ((G : Int) + 1) < 4294967296 := by omega
    have hG0 : (0 : Int) ≤ (G : Int) + 1 := by omega
    have hGn : ((G : Int) + 1).toNat = G + 1 := by omega
    have hro : renewOps ss.length (G + 1) l = opsW (renewWs ss.length (G + 1) l) ++ [opS, opW 0 (markS (G + 1)), opS] := rfl
    have hrw : renewWs ss.length (G + 1) l = placed (fromN ss.length (G + 1)) (secsAll (G + 1) l) ++ (if (secsAll (G + 1) l).length < halfN ss.length then [⟨((fromN ss.length (G + 1) + (secsAll (G + 1) l).length : Nat) : Int), fill []⟩] else []) := rfl
    generalize hA : fromN ss.length (G + 1) = A at *
    generalize hhf : halfN ss.length = hf at *
    simp (maxSteps := 4000000) only [↓exT_call G25_17, ↓exT_callo G25_17, ↓exT_calloG G25_17, ↓exT_call G25_49, ↓exT_callo G25_49, ↓exT_calloG G25_49, ↓exT_call G25_53, ↓exT_callo G25_53, ↓exT_calloG G25_53, ↓exT_call G25_54, ↓exT_callo G25_54, ↓exT_calloG G25_54, ↓exT_call G25_57, ↓exT_callo G25_57, ↓exT_calloG G25_57, ↓exT_call G25_48, ↓exT_callo G25_48, ↓exT_calloG G25_48, he, hgg, hrr, hnn, hl0', go_sem, Nat.reduceAdd, Nat.reduceSub, Nat.reduceMul, Nat.reduceEqDiff, Nat.reduceLeDiff, Nat.reduceLT, Nat.reduceBEq, Int.reduceLE, Int.reduceLT, Int.reduceToNat, Int.reduceNeg, Int.reduceAdd, Int.reduceSub, Int.reduceMul, ↓reduceIte]
    repeat (refine ⟨by omega, ?_⟩)
    refine awp_loopM (α := Nat) (fun i => [(1, .c (.s (.list 2 (encs recE l) h))), (2, .c (.ptr 2 0)), (6, .c (.ptr 6 0)), (8, .c (.s (.bool ((l.take i).any fun r => decide (1200 < r.text.length))))), (9, .c (.s (.int .i64 i)))])
      (fun _ => [(2, .box [.s (.list 1 (encs strE ss) f), .s (.list 2 (encs wrE cs) g)]), (6, .box [.s (.int .i64 G), .s (.list 2 (encs recE rs) false), .s (.int .i64 nx)])]) (fun i => l.length - i) 0 (fun i => i ≤ l.length ∧ chainB none (l.take i) = true) ⟨Nat.zero_le _, by simp [chainB]⟩ (Weak.meets ?_) ?_
    · simp (maxSteps := 4000000) only [↓exT_call G25_17, ↓exT_callo G25_17, ↓exT_calloG G25_17, ↓exT_call G25_49, ↓exT_callo G25_49, ↓exT_calloG G25_49, ↓exT_call G25_53, ↓exT_callo G25_53, ↓exT_calloG G25_53, ↓exT_call G25_54, ↓exT_callo G25_54, ↓exT_calloG G25_54, ↓exT_call G25_57, ↓exT_callo G25_57, ↓exT_calloG G25_57, ↓exT_call G25_48, ↓exT_callo G25_48, ↓exT_calloG G25_48, go_sem, Nat.reduceAdd, Nat.reduceSub, Nat.reduceMul, Nat.reduceEqDiff, Nat.reduceLeDiff, Nat.reduceLT, Nat.reduceBEq, Int.reduceLE, Int.reduceLT, Int.reduceToNat, Int.reduceNeg, Int.reduceAdd, Int.reduceSub, Int.reduceMul, ↓reduceIte]
      exact ⟨rfl, rfl⟩
    rintro x ⟨hx, hw⟩
    by_cases hxl : x < l.length
    case pos =>
      have hxi : (x : Int) < (l.length : Int) := by omega
      have hat := chain_at hxl
      have hany := any_take (p := fun r : Rec => decide (1200 < r.text.length)) hxl
      rw [hw, Bool.true_and] at hat
      generalize hnm : (l.getD x default).num = nm at *
      have hbad : chainB none (l.take (x + 1)) = false → soundE l = 1 := fun h => by unfold soundE; rw [if_pos (.inr (chain_bad h))]
      by_cases h1 : nm < 1
      case pos =>
        have he := hbad (by rw [hat, decide_eq_false (by omega : ¬ 1 ≤ nm)]; rfl)
        rw [he, if_pos (by simp)]
        simp (maxSteps := 4000000) only [↓exT_call G25_17, ↓exT_callo G25_17, ↓exT_calloG G25_17, ↓exT_call G25_49, ↓exT_callo G25_49, ↓exT_calloG G25_49, ↓exT_call G25_53, ↓exT_callo G25_53, ↓exT_calloG G25_53, ↓exT_call G25_54, ↓exT_callo G25_54, ↓exT_calloG G25_54, ↓exT_call G25_57, ↓exT_callo G25_57, ↓exT_calloG G25_57, ↓exT_call G25_48, ↓exT_callo G25_48, ↓exT_calloG G25_48, hxi, hnm, h1, go_sem, Nat.reduceAdd, Nat.reduceSub, Nat.reduceMul, Nat.reduceEqDiff, Nat.reduceLeDiff, Nat.reduceLT, Nat.reduceBEq, Int.reduceLE, Int.reduceLT, Int.reduceToNat, Int.reduceNeg, Int.reduceAdd, Int.reduceSub, Int.reduceMul, ↓reduceIte]
      by_cases h2 : 2147483647 < nm
      case pos =>
        have he := hbad (by rw [hat, decide_eq_false (by omega : ¬ nm ≤ maxNum), Bool.and_false]; rfl)
        rw [he, if_pos (by simp)]
        simp (maxSteps := 4000000) only [↓exT_call G25_17, ↓exT_callo G25_17, ↓exT_calloG G25_17, ↓exT_call G25_49, ↓exT_callo G25_49, ↓exT_calloG G25_49, ↓exT_call G25_53, ↓exT_callo G25_53, ↓exT_calloG G25_53, ↓exT_call G25_54, ↓exT_callo G25_54, ↓exT_calloG G25_54, ↓exT_call G25_57, ↓exT_callo G25_57, ↓exT_calloG G25_57, ↓exT_call G25_48, ↓exT_callo G25_48, ↓exT_calloG G25_48, hxi, hnm, h1, h2, go_sem, Nat.reduceAdd, Nat.reduceSub, Nat.reduceMul, Nat.reduceEqDiff, Nat.reduceLeDiff, Nat.reduceLT, Nat.reduceBEq, Int.reduceLE, Int.reduceLT, Int.reduceToNat, Int.reduceNeg, Int.reduceAdd, Int.reduceSub, Int.reduceMul, ↓reduceIte]
      have hb : (decide (1 ≤ nm) && decide (nm ≤ maxNum)) = true := by rw [decide_eq_true (by omega : 1 ≤ nm), decide_eq_true (by omega : nm ≤ maxNum)]; rfl
      rw [hb, Bool.true_and] at hat
      generalize hlb : ((l.take x).any fun r => decide (1200 < r.text.length)) = lb at *
      cases x with
      | zero =>
        have hf : chainB none (l.take (0 + 1)) = true := by rw [hat]; rfl
        have hz : ¬ (0 : Int) < ((0 : Nat) : Int) := by omega
        cases lb <;> simp (maxSteps := 4000000) only [↓exT_call G25_17, ↓exT_callo G25_17, ↓exT_calloG G25_17, ↓exT_call G25_49, ↓exT_callo G25_49, ↓exT_calloG G25_49, ↓exT_call G25_53, ↓exT_callo G25_53, ↓exT_calloG G25_53, ↓exT_call G25_54, ↓exT_callo G25_54, ↓exT_calloG G25_54, ↓exT_call G25_57, ↓exT_callo G25_57, ↓exT_calloG G25_57, ↓exT_call G25_48, ↓exT_callo G25_48, ↓exT_calloG G25_48, hxi, hnm, h1, h2, hz, go_sem, Nat.reduceAdd, Nat.reduceSub, Nat.reduceMul, Nat.reduceEqDiff, Nat.reduceLeDiff, Nat.reduceLT, Nat.reduceBEq, Int.reduceLE, Int.reduceLT, Int.reduceToNat, Int.reduceNeg, Int.reduceAdd, Int.reduceSub, Int.reduceMul, ↓reduceIte]
        · exact ⟨by omega, 1, ⟨by omega, hf⟩, by omega, by rw [hany, Bool.false_or]; exact decide_eq_decide.2 (by omega), by simp⟩
        · exact ⟨by omega, 1, ⟨by omega, hf⟩, by omega, by rw [hany]; rfl, by simp⟩
      | succ y =>
        have hyl : y < l.length := by omega
        rw [lastOr_take hyl] at hat
        have hz : (0 : Int) < ((y + 1 : Nat) : Int) := by omega
        have hfe : follows (some (l.getD y default).num) (l.getD (y + 1) default) = decide (nm = (l.getD y default).num + 1) := by rw [← hnm]; rfl
        rw [hfe] at hat
        have e1 : (((y + 1 : Nat) : Int) - 1) = (y : Int) := by omega
        have hyi : (y : Int) < (l.length : Int) := by omega
        have hwl := chain_mem hw (l.getD y default) (by rw [take_getD hyl]; simp)
        by_cases h3 : nm = (l.getD y default).num + 1
        · have hf : chainB none (l.take (y + 1 + 1)) = true := by rw [hat]; exact decide_eq_true h3
          have h3' : (decide (nm = (l.getD y default).num + 1)) = true := decide_eq_true h3
          cases lb <;> simp (maxSteps := 4000000) only [↓exT_call G25_17, ↓exT_callo G25_17, ↓exT_calloG G25_17, ↓exT_call G25_49, ↓exT_callo G25_49, ↓exT_calloG G25_49, ↓exT_call G25_53, ↓exT_callo G25_53, ↓exT_calloG G25_53, ↓exT_call G25_54, ↓exT_callo G25_54, ↓exT_calloG G25_54, ↓exT_call G25_57, ↓exT_callo G25_57, ↓exT_calloG G25_57, ↓exT_call G25_48, ↓exT_callo G25_48, ↓exT_calloG G25_48, hxi, hnm, h1, h2, hz, e1, hyi, h3', go_sem, Nat.reduceAdd, Nat.reduceSub, Nat.reduceMul, Nat.reduceEqDiff, Nat.reduceLeDiff, Nat.reduceLT, Nat.reduceBEq, Int.reduceLE, Int.reduceLT, Int.reduceToNat, Int.reduceNeg, Int.reduceAdd, Int.reduceSub, Int.reduceMul, ↓reduceIte]
          · exact ⟨by omega, by omega, by omega, y + 2, ⟨by omega, hf⟩, by omega, by rw [hany, Bool.false_or]; exact decide_eq_decide.2 (by omega), by omega⟩
          · exact ⟨by omega, by omega, by omega, y + 2, ⟨by omega, hf⟩, by omega, by rw [hany]; rfl, by omega⟩
        · have h3' : (decide (nm = (l.getD y default).num + 1)) = false := decide_eq_false h3
          have he := hbad (by rw [hat]; exact h3')
          rw [he, if_pos (by simp)]
          simp (maxSteps := 4000000) only [↓exT_call G25_17, ↓exT_callo G25_17, ↓exT_calloG G25_17, ↓exT_call G25_49, ↓exT_callo G25_49, ↓exT_calloG G25_49, ↓exT_call G25_53, ↓exT_callo G25_53, ↓exT_calloG G25_53, ↓exT_call G25_54, ↓exT_callo G25_54, ↓exT_calloG G25_54, ↓exT_call G25_57, ↓exT_callo G25_57, ↓exT_calloG G25_57, ↓exT_call G25_48, ↓exT_callo G25_48, ↓exT_calloG G25_48, hxi, hnm, h1, h2, hz, e1, hyi, h3', go_sem, Nat.reduceAdd, Nat.reduceSub, Nat.reduceMul, Nat.reduceEqDiff, Nat.reduceLeDiff, Nat.reduceLT, Nat.reduceBEq, Int.reduceLE, Int.reduceLT, Int.reduceToNat, Int.reduceNeg, Int.reduceAdd, Int.reduceSub, Int.reduceMul, ↓reduceIte]
          all_goals ((repeat' (first | with_reducible apply And.intro | intro)) <;> first | omega | (with_reducible rfl) | skip)
    have hxi : ¬ (x : Int) < (l.length : Int) := by omega
    obtain rfl : x = l.length := by omega
    rw [List.take_length] at *
    have hsd : soundE l = if l.any (fun r => decide (1200 < r.text.length)) = true then 5 else 0 := by unfold soundE; rw [if_neg (by simp [h0, hw])]
    cases hlb : l.any (fun r => decide (1200 < r.text.length)) with
    | true =>
      rw [hlb, if_pos rfl] at hsd
      rw [hsd, if_pos (by simp)]
      simp (maxSteps := 4000000) only [↓exT_call G25_17, ↓exT_callo G25_17, ↓exT_calloG G25_17, ↓exT_call G25_49, ↓exT_callo G25_49, ↓exT_calloG G25_49, ↓exT_call G25_53, ↓exT_callo G25_53, ↓exT_calloG G25_53, ↓exT_call G25_54, ↓exT_callo G25_54, ↓exT_calloG G25_54, ↓exT_call G25_57, ↓exT_callo G25_57, ↓exT_calloG G25_57, ↓exT_call G25_48, ↓exT_callo G25_48, ↓exT_calloG G25_48, hxi, go_sem, Nat.reduceAdd, Nat.reduceSub, Nat.reduceMul, Nat.reduceEqDiff, Nat.reduceLeDiff, Nat.reduceLT, Nat.reduceBEq, Int.reduceLE, Int.reduceLT, Int.reduceToNat, Int.reduceNeg, Int.reduceAdd, Int.reduceSub, Int.reduceMul, ↓reduceIte]
    | false =>
    rw [hlb, if_neg (by simp)] at hsd
    obtain ⟨s1, s2, s3⟩ := sound_0 hsd
    rw [hsd, if_neg (by simp)]
    simp (maxSteps := 4000000) only [↓exT_call G25_17, ↓exT_callo G25_17, ↓exT_calloG G25_17, ↓exT_call G25_49, ↓exT_callo G25_49, ↓exT_calloG G25_49, ↓exT_call G25_53, ↓exT_callo G25_53, ↓exT_calloG G25_53, ↓exT_call G25_54, ↓exT_callo G25_54, ↓exT_calloG G25_54, ↓exT_call G25_57, ↓exT_callo G25_57, ↓exT_calloG G25_57, ↓exT_call G25_48, ↓exT_callo G25_48, ↓exT_calloG G25_48, hxi, q1, q2, hG0, hG1, hGn, hA, hhf, go_sem, Nat.reduceAdd, Nat.reduceSub, Nat.reduceMul, Nat.reduceEqDiff, Nat.reduceLeDiff, Nat.reduceLT, Nat.reduceBEq, Int.reduceLE, Int.reduceLT, Int.reduceToNat, Int.reduceNeg, Int.reduceAdd, Int.reduceSub, Int.reduceMul, ↓reduceIte]
    repeat (refine ⟨by omega, ?_⟩)
    have hall := secsAll_le (g := G + 1) (l := l) s3
    refine awp_loopM (α := Nat) (fun i => [(1, .c (.s (.list 2 (encs recE l) h))), (10, .c (.s (.int .i64 ((G : Int) + 1)))), (11, .c (.s (.int .i64 A))), (12, .c (.s (.int .i64 hf))), (13, .c (.own 13 (secsAll (G + 1) (l.take i)).length)), (14, .c (.s (.int .i64 i)))])
      (fun i => [(13, .row 3 (encs opE (opsW (placed A (secsAll (G + 1) (l.take i))))))]) (fun i => l.length - i) 0 (fun i => i ≤ l.length) (Nat.zero_le _) (Weak.trans (Weak.nilSlot 13 13 3 rfl rfl) (Weak.meets ?_)) ?_
    · simp (maxSteps := 4000000) only [↓exT_call G25_17, ↓exT_callo G25_17, ↓exT_calloG G25_17, ↓exT_call G25_49, ↓exT_callo G25_49, ↓exT_calloG G25_49, ↓exT_call G25_53, ↓exT_callo G25_53, ↓exT_calloG G25_53, ↓exT_call G25_54, ↓exT_callo G25_54, ↓exT_calloG G25_54, ↓exT_call G25_57, ↓exT_callo G25_57, ↓exT_calloG G25_57, ↓exT_call G25_48, ↓exT_callo G25_48, ↓exT_calloG G25_48, go_sem, Nat.reduceAdd, Nat.reduceSub, Nat.reduceMul, Nat.reduceEqDiff, Nat.reduceLeDiff, Nat.reduceLT, Nat.reduceBEq, Int.reduceLE, Int.reduceLT, Int.reduceToNat, Int.reduceNeg, Int.reduceAdd, Int.reduceSub, Int.reduceMul, ↓reduceIte]
      exact ⟨⟨rfl, rfl⟩, rfl⟩
    intro x hx
    have hal := secsAll_le (g := G + 1) (l := l.take x) (fun r hr => s3 r (List.mem_of_mem_take hr))
    simp only [List.length_take] at hal
    by_cases hxl : x < l.length
    case pos =>
      have hxi : (x : Int) < (l.length : Int) := by omega
      have hm := chain_mem s2 _ (mem_getD (l := l) hxl)
      have ht := s3 _ (mem_getD (l := l) hxl)
      have hb := secs_len_le (g := G + 1) ht
      have hst := secsAll_take' (g := G + 1) hxl
      have hm1 : 0 ≤ (l.getD x default).num := by omega
      have hm2 : (l.getD x default).num < 4294967296 := by omega
      have ht2 : (l.getD x default).text.length < 4000000 := by omega
      generalize hSL : secs (G + 1) (l.getD x default) = SL at *
      generalize secsAll (G + 1) (l.take x) = PR at *
      simp (maxSteps := 4000000) only [↓exT_call G25_17, ↓exT_callo G25_17, ↓exT_calloG G25_17, ↓exT_call G25_49, ↓exT_callo G25_49, ↓exT_calloG G25_49, ↓exT_call G25_53, ↓exT_callo G25_53, ↓exT_calloG G25_53, ↓exT_call G25_54, ↓exT_callo G25_54, ↓exT_calloG G25_54, ↓exT_call G25_57, ↓exT_callo G25_57, ↓exT_calloG G25_57, ↓exT_call G25_48, ↓exT_callo G25_48, ↓exT_calloG G25_48, hxi, hG0, hG1, hGn, hm1, hm2, ht2, hSL, go_sem, Nat.reduceAdd, Nat.reduceSub, Nat.reduceMul, Nat.reduceEqDiff, Nat.reduceLeDiff, Nat.reduceLT, Nat.reduceBEq, Int.reduceLE, Int.reduceLT, Int.reduceToNat, Int.reduceNeg, Int.reduceAdd, Int.reduceSub, Int.reduceMul, ↓reduceIte]
      refine awp_loopM (α := Nat) (fun i => [(1, .c (.s (.list 2 (encs recE l) h))), (10, .c (.s (.int .i64 ((G : Int) + 1)))), (11, .c (.s (.int .i64 A))), (12, .c (.s (.int .i64 hf))), (13, .c (.own 13 (PR.length + i))), (14, .c (.s (.int .i64 x))), (15, .c (.s (.list 1 (encs strE SL) false))), (16, .c (.s (.int .i64 i)))])
        (fun i => [(13, .row 3 (encs opE (opsW (placed A (PR ++ SL.take i)))))]) (fun i => SL.length - i) 0 (fun i => i ≤ SL.length) (Nat.zero_le _) (Weak.meets ?_) ?_
      · simp (maxSteps := 4000000) only [↓exT_call G25_17, ↓exT_callo G25_17, ↓exT_calloG G25_17, ↓exT_call G25_49, ↓exT_callo G25_49, ↓exT_calloG G25_49, ↓exT_call G25_53, ↓exT_callo G25_53, ↓exT_calloG G25_53, ↓exT_call G25_54, ↓exT_callo G25_54, ↓exT_calloG G25_54, ↓exT_call G25_57, ↓exT_callo G25_57, ↓exT_calloG G25_57, ↓exT_call G25_48, ↓exT_callo G25_48, ↓exT_calloG G25_48, go_sem, Nat.reduceAdd, Nat.reduceSub, Nat.reduceMul, Nat.reduceEqDiff, Nat.reduceLeDiff, Nat.reduceLT, Nat.reduceBEq, Int.reduceLE, Int.reduceLT, Int.reduceToNat, Int.reduceNeg, Int.reduceAdd, Int.reduceSub, Int.reduceMul, ↓reduceIte]
        exact ⟨rfl, rfl⟩
      intro y hy
      have hpl : (opsW (placed A (PR ++ SL.take y))).length = PR.length + y := by rw [opsW_len, placed_len, List.length_append, List.length_take]; omega
      by_cases hyl : y < SL.length
      · have hyi : (y : Int) < (SL.length : Int) := by omega
        have htk := placed_two (a := A) (p := PR) hyl
        have ec : (A : Int) + ((PR.length + y : Nat) : Int) = ((A + (PR.length + y) : Nat) : Int) := by omega
        simp (maxSteps := 4000000) only [↓exT_call G25_17, ↓exT_callo G25_17, ↓exT_calloG G25_17, ↓exT_call G25_49, ↓exT_callo G25_49, ↓exT_calloG G25_49, ↓exT_call G25_53, ↓exT_callo G25_53, ↓exT_calloG G25_53, ↓exT_call G25_54, ↓exT_callo G25_54, ↓exT_calloG G25_54, ↓exT_call G25_57, ↓exT_callo G25_57, ↓exT_calloG G25_57, ↓exT_call G25_48, ↓exT_callo G25_48, ↓exT_calloG G25_48, hyi, hpl, ec, ops_one, go_sem, Nat.reduceAdd, Nat.reduceSub, Nat.reduceMul, Nat.reduceEqDiff, Nat.reduceLeDiff, Nat.reduceLT, Nat.reduceBEq, Int.reduceLE, Int.reduceLT, Int.reduceToNat, Int.reduceNeg, Int.reduceAdd, Int.reduceSub, Int.reduceMul, ↓reduceIte]
        refine ⟨by omega, by omega, by omega, y + 1, by omega, by omega, ⟨?_, by omega⟩, by rw [← htk]⟩
        rw [opsW_len, List.length_append, placed_len, List.length_append, List.length_take]; simp; omega
      · have hyi : ¬ (y : Int) < (SL.length : Int) := by omega
        have htk : SL.take y = SL := List.take_of_length_le (by omega)
        simp (maxSteps := 4000000) only [↓exT_call G25_17, ↓exT_callo G25_17, ↓exT_calloG G25_17, ↓exT_call G25_49, ↓exT_callo G25_49, ↓exT_calloG G25_49, ↓exT_call G25_53, ↓exT_callo G25_53, ↓exT_calloG G25_53, ↓exT_call G25_54, ↓exT_callo G25_54, ↓exT_calloG G25_54, ↓exT_call G25_57, ↓exT_callo G25_57, ↓exT_calloG G25_57, ↓exT_call G25_48, ↓exT_callo G25_48, ↓exT_calloG G25_48, hyi, htk, go_sem, Nat.reduceAdd, Nat.reduceSub, Nat.reduceMul, Nat.reduceEqDiff, Nat.reduceLeDiff, Nat.reduceLT, Nat.reduceBEq, Int.reduceLE, Int.reduceLT, Int.reduceToNat, Int.reduceNeg, Int.reduceAdd, Int.reduceSub, Int.reduceMul, ↓reduceIte]
        exact ⟨by omega, x + 1, by omega, by omega, ⟨by rw [hst, List.length_append]; omega, by omega⟩, by rw [hst]⟩
    have hxi : ¬ (x : Int) < (l.length : Int) := by omega
    obtain rfl : x = l.length := by omega
    rw [List.take_length] at *
    generalize secsAll (G + 1) l = ALL at *
    have hpa : (opsW (placed A ALL)).length = ALL.length := by rw [opsW_len, placed_len]
    by_cases hcf : hf < ALL.length
    case pos =>
      have hcf' : (hf : Int) < (ALL.length : Int) := by omega
      rw [if_pos (.inl hcf)]
      simp (maxSteps := 4000000) only [↓exT_call G25_17, ↓exT_callo G25_17, ↓exT_calloG G25_17, ↓exT_call G25_49, ↓exT_callo G25_49, ↓exT_calloG G25_49, ↓exT_call G25_53, ↓exT_callo G25_53, ↓exT_calloG G25_53, ↓exT_call G25_54, ↓exT_callo G25_54, ↓exT_calloG G25_54, ↓exT_call G25_57, ↓exT_callo G25_57, ↓exT_calloG G25_57, ↓exT_call G25_48, ↓exT_callo G25_48, ↓exT_calloG G25_48, hxi, hcf', hpa, go_sem, Nat.reduceAdd, Nat.reduceSub, Nat.reduceMul, Nat.reduceEqDiff, Nat.reduceLeDiff, Nat.reduceLT, Nat.reduceBEq, Int.reduceLE, Int.reduceLT, Int.reduceToNat, Int.reduceNeg, Int.reduceAdd, Int.reduceSub, Int.reduceMul, ↓reduceIte]
    have hcf' : ¬ (hf : Int) < (ALL.length : Int) := by omega
    by_cases hmg : maxNum < G + 1
    case pos =>
      have hmg' : 2147483647 < (G : Int) + 1 := by omega
      rw [if_pos (.inr hmg)]
      simp (maxSteps := 4000000) only [↓exT_call G25_17, ↓exT_callo G25_17, ↓exT_calloG G25_17, ↓exT_call G25_49, ↓exT_callo G25_49, ↓exT_calloG G25_49, ↓exT_call G25_53, ↓exT_callo G25_53, ↓exT_calloG G25_53, ↓exT_call G25_54, ↓exT_callo G25_54, ↓exT_calloG G25_54, ↓exT_call G25_57, ↓exT_callo G25_57, ↓exT_calloG G25_57, ↓exT_call G25_48, ↓exT_callo G25_48, ↓exT_calloG G25_48, hxi, hcf', hmg', hpa, go_sem, Nat.reduceAdd, Nat.reduceSub, Nat.reduceMul, Nat.reduceEqDiff, Nat.reduceLeDiff, Nat.reduceLT, Nat.reduceBEq, Int.reduceLE, Int.reduceLT, Int.reduceToNat, Int.reduceNeg, Int.reduceAdd, Int.reduceSub, Int.reduceMul, ↓reduceIte]
    have hmg' : ¬ 2147483647 < (G : Int) + 1 := by omega
    rw [if_neg (by omega), hro, hrw]
    have ec : (A : Int) + (ALL.length : Int) = ((A + ALL.length : Nat) : Int) := by omega
    by_cases hlt : ALL.length < hf
    · have hlt' : (ALL.length : Int) < (hf : Int) := by omega
      rw [if_pos hlt]
      simp (maxSteps := 4000000) only [↓exT_call G25_17, ↓exT_callo G25_17, ↓exT_calloG G25_17, ↓exT_call G25_49, ↓exT_callo G25_49, ↓exT_calloG G25_49, ↓exT_call G25_53, ↓exT_callo G25_53, ↓exT_calloG G25_53, ↓exT_call G25_54, ↓exT_callo G25_54, ↓exT_calloG G25_54, ↓exT_call G25_57, ↓exT_callo G25_57, ↓exT_calloG G25_57, ↓exT_call G25_48, ↓exT_callo G25_48, ↓exT_calloG G25_48, hxi, hcf', hmg', hlt', hpa, ec, ops_one, ops_two, ops_sync, hG0, hG1, hGn, go_sem, Nat.reduceAdd, Nat.reduceSub, Nat.reduceMul, Nat.reduceEqDiff, Nat.reduceLeDiff, Nat.reduceLT, Nat.reduceBEq, Int.reduceLE, Int.reduceLT, Int.reduceToNat, Int.reduceNeg, Int.reduceAdd, Int.reduceSub, Int.reduceMul, ↓reduceIte]
      have hpb : (opsW (placed A ALL ++ [⟨((A + ALL.length : Nat) : Int), fill []⟩])).length = ALL.length + 1 := by rw [opsW_len, List.length_append, placed_len]; rfl
      rw [hpb]
      exact ⟨by omega, by omega, by omega, by omega, by simp⟩
    · have hlt' : ¬ (ALL.length : Int) < (hf : Int) := by omega
      rw [if_neg hlt, List.append_nil]
      simp (maxSteps := 4000000) only [↓exT_call G25_17, ↓exT_callo G25_17, ↓exT_calloG G25_17, ↓exT_call G25_49, ↓exT_callo G25_49, ↓exT_calloG G25_49, ↓exT_call G25_53, ↓exT_callo G25_53, ↓exT_calloG G25_53, ↓exT_call G25_54, ↓exT_callo G25_54, ↓exT_calloG G25_54, ↓exT_call G25_57, ↓exT_callo G25_57, ↓exT_calloG G25_57, ↓exT_call G25_48, ↓exT_callo G25_48, ↓exT_calloG G25_48, hxi, hcf', hmg', hlt', hpa, ec, ops_two, ops_sync, hG0, hG1, hGn, go_sem, Nat.reduceAdd, Nat.reduceSub, Nat.reduceMul, Nat.reduceEqDiff, Nat.reduceLeDiff, Nat.reduceLT, Nat.reduceBEq, Int.reduceLE, Int.reduceLT, Int.reduceToNat, Int.reduceNeg, Int.reduceAdd, Int.reduceSub, Int.reduceMul, ↓reduceIte]
      exact ⟨by omega, by omega, by simp⟩

end Go.Proofs.Ytniioedflegdkaa

/- The document's functions on records, last part: operations compared. -/
namespace Go.Proofs.Ytniioedflegdkaa
open Go Go.Ab Go.Proofs Go.Fs
theorem opsR_snoc {l : List DOp} {i : Nat} (h : i < l.length) : encs opE (l.take i) ++ [[.bool (l.getD i default).sync, .int .i64 (l.getD i default).w.loc, .str (l.getD i default).w.data]] = encs opE (l.take (i + 1)) := by
  rw [take_getD h, encs_append]; rfl
def opsRG_enc : (List DOp) × (Bool) → List V := fun ⟨l, f⟩ => [.c (.s (.list 3 (encs opE l) f))]
theorem opsRG_inj : ∀ x y, opsRG_enc x = opsRG_enc y → x = y := by
  rintro ⟨l, f⟩ ⟨l2, f2⟩ h
  simp only [opsRG_enc, List.cons.injEq, V.c.injEq, V.agg.injEq, C.s.injEq, S.list.injEq, S.str.injEq, S.int.injEq, S.bool.injEq, S.fn.injEq, S.cref.injEq, strE_inj, true_and, and_true, opE_inj] at h
  simp_all
noncomputable def opsRG : List V → Option (V) := specE opsRG_enc (fun ⟨l, f⟩ => l.length < 4000000) (fun ⟨l, f⟩ => .c (.s (.list 3 (encs opE l) false)))
theorem opsRG_eq {l : List DOp} {f : Bool} [Decidable (l.length < 4000000)] : opsRG [.c (.s (.list 3 (encs opE l) f))] = if l.length < 4000000 then some (.c (.s (.list 3 (encs opE l) false))) else none := specE_eq opsRG_inj (l, f)
theorem opsRG_call {l : List DOp} {f : Bool} {gt : Bool} {K : V → Prop} : callE opsRG [.c (.s (.list 3 (encs opE l) f))] gt K = ((gt = true → l.length < 4000000) ∧ bindV (ifV gt (.c (.s (.list 3 (encs opE l) false)))) K) := by
  have := Classical.propDecidable (l.length < 4000000)
  exact callE_of opsRG_eq
theorem opsRG_callo {l : List DOp} {f : Bool} {m : Nat → Option Ab.Obj} {locs : List Nat} {K : V → (Nat → Option Ab.Obj) → Prop} : callO opsRG (some [.c (.s (.list 3 (encs opE l) f))]) m locs K = ((l.length < 4000000) ∧ K (.c (.s (.list 3 (encs opE l) false))) (sealW m locs (.c (.s (.list 3 (encs opE l) false))))) := by
  have := Classical.propDecidable (l.length < 4000000)
  exact callO_of opsRG_eq
attribute [go_sem] opsRG_call opsRG_callo

def sc_law18_ops : SC := .seq (.reg [⟨some 2, .mv, [.k (.c (.s (.list 0 [] true)))], none⟩]) (.seq (.reg [⟨some 3, .mv, [.k (.c (.s (.list 0 [] true)))], none⟩]) (.seq (.seq (.reg [⟨some 6, .mv, [.t 0], none⟩,
⟨some 7, .len false, [.t 6], none⟩,
⟨some 8, .mv, [.k (.c (.s (.int .i64 0)))], none⟩]) (.block 0 (.loop (.seq (.reg [⟨some 9, .bin .lss, [.t 8, .t 7], none⟩]) (.seq (.cond (.t 9) (.skip) (.exit 0)) (.seq (.block 1 (.seq (.reg [⟨some 10, .iadr 3, [.t 6, .t 8], none⟩,
⟨some 11, .load 3 true, [.t 10], none⟩,
⟨some 5, .alloc [.bool false, .int .i64 0, .str []], [], none⟩,
⟨none, .store 3 true, [.t 5, .t 11], none⟩]) (.reg [⟨some 12, .mv, [.t 3], none⟩,
⟨some 13, .fadr 0, [.t 5], none⟩,
⟨some 14, .load 1 false, [.t 13], none⟩,
⟨some 15, .fadr 1, [.t 5], none⟩,
⟨some 16, .load 2 true, [.t 15], none⟩,
⟨some 17, .build [.bool false, .int .i64 0, .str []] [(0, 1), (1, 2)], [.t 14, .t 16], none⟩,
⟨some 18, .bslice 3 1 [.bool false, .int .i64 0, .str []] [0], [.t 17], none⟩,
⟨some 19, .append false 3 32, [.t 12, .t 18], none⟩,
⟨some 3, .mv, [.t 19], none⟩]))) (.reg [⟨some 20, .bin .add, [.t 8, .k (.c (.s (.int .i64 1)))], none⟩,
⟨some 8, .mv, [.t 20], none⟩]))))))) (.seq (.reg [⟨some 21, .mv, [.t 3], none⟩,
⟨some 2, .mv, [.t 21], none⟩]) (.ret))))
noncomputable def G_law18_ops : FuncId → Ab.Spec := noS
theorem G_law18_ops_ok : ∀ f, Contract Try.prog f (G_law18_ops f) := (noS_ok _)
set_option maxHeartbeats 16000000 in
set_option maxRecDepth 1000000 in
set_option linter.unusedSimpArgs false in
set_option linter.unusedVariables false in
theorem contract_law18_ops : Contract Try.prog 23 (plain opsRG) := by
  have hb : ∃ c, Try.f23.body = some c ∧ codeOk 22 c = true ∧ cCode Try.prog c = sc_law18_ops := ⟨_, rfl, by kernel_rfl, by kernel_rfl⟩
  obtain ⟨c, hb1, hb2, hb3⟩ := hb
  refine contract_of (n := 1) G_law18_ops_ok hB hD Try.func23 hb1 (by kernel_rfl) hb2 hb3 (rs := [.tmp 2]) (by kernel_rfl) (by decide) ?_ ?_
  · intro args x h
    obtain ⟨y, hy, -⟩ := Option.map_eq_some_iff.1 h
    obtain ⟨⟨l, f⟩, rfl, -⟩ := specE_some hy
    rfl
  · intro args r hr
    obtain ⟨y, hy, rfl⟩ := Option.map_eq_some_iff.1 hr
    obtain ⟨⟨l, f⟩, rfl, hc, rfl⟩ := specE_some hy
    clear hr hy
    have hc : l.length < 4000000 := hc
    change awp _ _ (postQ _ (.v (.c (.s (.list 3 (encs opE l) false))))) _
    unfold opsRG_enc sc_law18_ops
    simp (maxSteps := 4000000) only [go_sem, Nat.reduceAdd, Nat.reduceSub, Nat.reduceMul, Nat.reduceEqDiff, Nat.reduceLeDiff, Nat.reduceLT, Nat.reduceBEq, Int.reduceLE, Int.reduceLT, Int.reduceToNat, Int.reduceNeg, Int.reduceAdd, Int.reduceSub, Int.reduceMul, ↓reduceIte]
    refine awp_loopM (α := Nat) (fun i => [(3, .c (.own 3 i)), (6, .c (.s (.list 3 (encs opE l) f))), (7, .c (.s (.int .i64 l.length))), (8, .c (.s (.int .i64 i)))])
      (fun i => [(3, .row 3 (encs opE (l.take i)))]) (fun i => l.length - i) 0 (fun i => i ≤ l.length) (Nat.zero_le _) (Weak.trans (Weak.nilSlot 3 3 3 rfl rfl) (Weak.meets ?_)) ?_
    · simp (maxSteps := 4000000) only [go_sem, Nat.reduceAdd, Nat.reduceSub, Nat.reduceMul, Nat.reduceEqDiff, Nat.reduceLeDiff, Nat.reduceLT, Nat.reduceBEq, Int.reduceLE, Int.reduceLT, Int.reduceToNat, Int.reduceNeg, Int.reduceAdd, Int.reduceSub, Int.reduceMul, ↓reduceIte]
      simp
    intro x hx
    have hl : (encs opE (l.take x)).length = x := by simp [encs]; omega
    by_cases hxl : x < l.length
    · have hxi : (x : Int) < (l.length : Int) := by omega
      simp (maxSteps := 4000000) only [hxi, hl, opsR_snoc hxl, go_sem, Nat.reduceAdd, Nat.reduceSub, Nat.reduceMul, Nat.reduceEqDiff, Nat.reduceLeDiff, Nat.reduceLT, Nat.reduceBEq, Int.reduceLE, Int.reduceLT, Int.reduceToNat, Int.reduceNeg, Int.reduceAdd, Int.reduceSub, Int.reduceMul, ↓reduceIte]
      refine ⟨by omega, by omega, x + 1, ?_⟩
      simp
      omega
    · have hxi : ¬ (x : Int) < (l.length : Int) := by omega
      obtain rfl : x = l.length := by omega
      rw [List.take_length]
      simp (maxSteps := 4000000) only [hxi, go_sem, Nat.reduceAdd, Nat.reduceSub, Nat.reduceMul, Nat.reduceEqDiff, Nat.reduceLeDiff, Nat.reduceLT, Nat.reduceBEq, Int.reduceLE, Int.reduceLT, Int.reduceToNat, Int.reduceNeg, Int.reduceAdd, Int.reduceSub, Int.reduceMul, ↓reduceIte]

def sc_law19_ops : SC := .seq (.reg [⟨some 2, .mv, [.k (.c (.s (.list 0 [] true)))], none⟩]) (.seq (.reg [⟨some 3, .mv, [.k (.c (.s (.list 0 [] true)))], none⟩]) (.seq (.seq (.reg [⟨some 6, .mv, [.t 0], none⟩,
⟨some 7, .len false, [.t 6], none⟩,
⟨some 8, .mv, [.k (.c (.s (.int .i64 0)))], none⟩]) (.block 0 (.loop (.seq (.reg [⟨some 9, .bin .lss, [.t 8, .t 7], none⟩]) (.seq (.cond (.t 9) (.skip) (.exit 0)) (.seq (.block 1 (.seq (.reg [⟨some 10, .iadr 3, [.t 6, .t 8], none⟩,
⟨some 11, .load 3 true, [.t 10], none⟩,
⟨some 5, .alloc [.bool false, .int .i64 0, .str []], [], none⟩,
⟨none, .store 3 true, [.t 5, .t 11], none⟩]) (.reg [⟨some 12, .mv, [.t 3], none⟩,
⟨some 13, .fadr 0, [.t 5], none⟩,
⟨some 14, .load 1 false, [.t 13], none⟩,
⟨some 15, .fadr 1, [.t 5], none⟩,
⟨some 16, .load 2 true, [.t 15], none⟩,
⟨some 17, .build [.bool false, .int .i64 0, .str []] [(0, 1), (1, 2)], [.t 14, .t 16], none⟩,
⟨some 18, .bslice 3 1 [.bool false, .int .i64 0, .str []] [0], [.t 17], none⟩,
⟨some 19, .append false 3 32, [.t 12, .t 18], none⟩,
⟨some 3, .mv, [.t 19], none⟩]))) (.reg [⟨some 20, .bin .add, [.t 8, .k (.c (.s (.int .i64 1)))], none⟩,
⟨some 8, .mv, [.t 20], none⟩]))))))) (.seq (.reg [⟨some 21, .mv, [.t 3], none⟩,
⟨some 2, .mv, [.t 21], none⟩]) (.ret))))
noncomputable def G_law19_ops : FuncId → Ab.Spec := noS
theorem G_law19_ops_ok : ∀ f, Contract Try.prog f (G_law19_ops f) := (noS_ok _)
set_option maxHeartbeats 16000000 in
set_option maxRecDepth 1000000 in
set_option linter.unusedSimpArgs false in
set_option linter.unusedVariables false in
theorem contract_law19_ops : Contract Try.prog 37 (plain opsRG) := by
  have hb : ∃ c, Try.f37.body = some c ∧ codeOk 22 c = true ∧ cCode Try.prog c = sc_law19_ops := ⟨_, rfl, by kernel_rfl, by kernel_rfl⟩
  obtain ⟨c, hb1, hb2, hb3⟩ := hb
  refine contract_of (n := 1) G_law19_ops_ok hB hD Try.func37 hb1 (by kernel_rfl) hb2 hb3 (rs := [.tmp 2]) (by kernel_rfl) (by decide) ?_ ?_
  · intro args x h
    obtain ⟨y, hy, -⟩ := Option.map_eq_some_iff.1 h
    obtain ⟨⟨l, f⟩, rfl, -⟩ := specE_some hy
    rfl
  · intro args r hr
    obtain ⟨y, hy, rfl⟩ := Option.map_eq_some_iff.1 hr
    obtain ⟨⟨l, f⟩, rfl, hc, rfl⟩ := specE_some hy
    clear hr hy
    have hc : l.length < 4000000 := hc
    change awp _ _ (postQ _ (.v (.c (.s (.list 3 (encs opE l) false))))) _
    unfold opsRG_enc sc_law19_ops
    simp (maxSteps := 4000000) only [go_sem, Nat.reduceAdd, Nat.reduceSub, Nat.reduceMul, Nat.reduceEqDiff, Nat.reduceLeDiff, Nat.reduceLT, Nat.reduceBEq, Int.reduceLE, Int.reduceLT, Int.reduceToNat, Int.reduceNeg, Int.reduceAdd, Int.reduceSub, Int.reduceMul, ↓reduceIte]
    refine awp_loopM (α := Nat) (fun i => [(3, .c (.own 3 i)), (6, .c (.s (.list 3 (encs opE l) f))), (7, .c (.s (.int .i64 l.length))), (8, .c (.s (.int .i64 i)))])
      (fun i => [(3, .row 3 (encs opE (l.take i)))]) (fun i => l.length - i) 0 (fun i => i ≤ l.length) (Nat.zero_le _) (Weak.trans (Weak.nilSlot 3 3 3 rfl rfl) (Weak.meets ?_)) ?_
    · simp (maxSteps := 4000000) only [go_sem, Nat.reduceAdd, Nat.reduceSub, Nat.reduceMul, Nat.reduceEqDiff, Nat.reduceLeDiff, Nat.reduceLT, Nat.reduceBEq, Int.reduceLE, Int.reduceLT, Int.reduceToNat, Int.reduceNeg, Int.reduceAdd, Int.reduceSub, Int.reduceMul, ↓reduceIte]
      simp
    intro x hx
    have hl : (encs opE (l.take x)).length = x := by simp [encs]; omega
    by_cases hxl : x < l.length
    · have hxi : (x : Int) < (l.length : Int) := by omega
      simp (maxSteps := 4000000) only [hxi, hl, opsR_snoc hxl, go_sem, Nat.reduceAdd, Nat.reduceSub, Nat.reduceMul, Nat.reduceEqDiff, Nat.reduceLeDiff, Nat.reduceLT, Nat.reduceBEq, Int.reduceLE, Int.reduceLT, Int.reduceToNat, Int.reduceNeg, Int.reduceAdd, Int.reduceSub, Int.reduceMul, ↓reduceIte]
      refine ⟨by omega, by omega, x + 1, ?_⟩
      simp
      omega
    · have hxi : ¬ (x : Int) < (l.length : Int) := by omega
      obtain rfl : x = l.length := by omega
      rw [List.take_length]
      simp (maxSteps := 4000000) only [hxi, go_sem, Nat.reduceAdd, Nat.reduceSub, Nat.reduceMul, Nat.reduceEqDiff, Nat.reduceLeDiff, Nat.reduceLT, Nat.reduceBEq, Int.reduceLE, Int.reduceLT, Int.reduceToNat, Int.reduceNeg, Int.reduceAdd, Int.reduceSub, Int.reduceMul, ↓reduceIte]

def sameOG_enc : (List DOp) × (Bool) × (List DOp) × (Bool) → List V := fun ⟨l, f, q, g⟩ => [.c (.s (.list 3 (encs opE l) f)), .c (.s (.list 3 (encs opE q) g))]
theorem sameOG_inj : ∀ x y, sameOG_enc x = sameOG_enc y → x = y := by
  rintro ⟨l, f, q, g⟩ ⟨l2, f2, q2, g2⟩ h
  simp only [sameOG_enc, List.cons.injEq, V.c.injEq, V.agg.injEq, C.s.injEq, S.list.injEq, S.str.injEq, S.int.injEq, S.bool.injEq, S.fn.injEq, S.cref.injEq, strE_inj, true_and, and_true, opE_inj] at h
  simp_all
noncomputable def sameOG : List V → Option (V) := specE sameOG_enc (fun ⟨l, f, q, g⟩ => l.length < 4000000) (fun ⟨l, f, q, g⟩ => .c (.s (.bool (decide (l = q)))))
theorem sameOG_eq {l : List DOp} {f : Bool} {q : List DOp} {g : Bool} [Decidable (l.length < 4000000)] : sameOG [.c (.s (.list 3 (encs opE l) f)), .c (.s (.list 3 (encs opE q) g))] = if l.length < 4000000 then some (.c (.s (.bool (decide (l = q))))) else none := specE_eq sameOG_inj (l, f, q, g)
theorem sameOG_call {l : List DOp} {f : Bool} {q : List DOp} {g : Bool} {gt : Bool} {K : V → Prop} : callE sameOG [.c (.s (.list 3 (encs opE l) f)), .c (.s (.list 3 (encs opE q) g))] gt K = ((gt = true → l.length < 4000000) ∧ bindV (ifV gt (.c (.s (.bool (decide (l = q)))))) K) := by
  have := Classical.propDecidable (l.length < 4000000)
  exact callE_of sameOG_eq
theorem sameOG_callo {l : List DOp} {f : Bool} {q : List DOp} {g : Bool} {m : Nat → Option Ab.Obj} {locs : List Nat} {K : V → (Nat → Option Ab.Obj) → Prop} : callO sameOG (some [.c (.s (.list 3 (encs opE l) f)), .c (.s (.list 3 (encs opE q) g))]) m locs K = ((l.length < 4000000) ∧ K (.c (.s (.bool (decide (l = q))))) (sealW m locs (.c (.s (.bool (decide (l = q))))))) := by
  have := Classical.propDecidable (l.length < 4000000)
  exact callO_of sameOG_eq
attribute [go_sem] sameOG_call sameOG_callo

def sc_ref18_Same : SC := .seq (.reg [⟨some 4, .mv, [.k (.c (.s (.bool false)))], none⟩]) (.seq (.seq (.reg [⟨some 6, .mv, [.t 0], none⟩,
⟨some 7, .len false, [.t 6], none⟩,
⟨some 8, .mv, [.t 1], none⟩,
⟨some 9, .len false, [.t 8], none⟩,
⟨some 10, .bin .neq, [.t 7, .t 9], none⟩]) (.cond (.t 10) (.seq (.reg [⟨some 4, .mv, [.k (.c (.s (.bool false)))], none⟩]) (.ret)) (.skip))) (.seq (.seq (.reg [⟨some 5, .mv, [.k (.c (.s (.int .i64 0)))], none⟩]) (.block 0 (.loop (.seq (.seq (.reg [⟨some 11, .mv, [.t 5], none⟩,
⟨some 12, .mv, [.t 0], none⟩,
⟨some 13, .len false, [.t 12], none⟩,
⟨some 14, .bin .lss, [.t 11, .t 13], none⟩]) (.cond (.t 14) (.skip) (.exit 0))) (.seq (.block 1 (.seq (.regD [⟨some 17, .mv, [.t 0], none⟩,
⟨some 18, .mv, [.t 5], none⟩,
⟨some 19, .iadr 3, [.t 17, .t 18], none⟩,
⟨some 20, .load 3 true, [.t 19], none⟩,
⟨some 21, .mv, [.t 1], none⟩,
⟨some 22, .mv, [.t 5], none⟩,
⟨some 23, .iadr 3, [.t 21, .t 22], none⟩,
⟨some 24, .load 3 true, [.t 23], none⟩,
⟨some 25, .eqA true [0, 1, 2], [.t 20, .t 24], none⟩] []) (.cond (.t 25) (.seq (.reg [⟨some 4, .mv, [.k (.c (.s (.bool false)))], none⟩]) (.ret)) (.skip)))) (.reg [⟨some 15, .mv, [.t 5], none⟩,
⟨some 16, .bin .add, [.t 15, .k (.c (.s (.int .i64 1)))], none⟩,
⟨some 5, .mv, [.t 16], none⟩])))))) (.seq (.reg [⟨some 4, .mv, [.k (.c (.s (.bool true)))], none⟩]) (.ret))))
noncomputable def G_ref18_Same : FuncId → Ab.Spec := noS
theorem G_ref18_Same_ok : ∀ f, Contract Try.prog f (G_ref18_Same f) := (noS_ok _)
set_option maxHeartbeats 16000000 in
set_option maxRecDepth 1000000 in
set_option linter.unusedSimpArgs false in
set_option linter.unusedVariables false in
theorem contract_ref18_Same : Contract Try.prog 22 (plain sameOG) := by
  have hb : ∃ c, Try.f22.body = some c ∧ codeOk 26 c = true ∧ cCode Try.prog c = sc_ref18_Same := ⟨_, rfl, by kernel_rfl, by kernel_rfl⟩
  obtain ⟨c, hb1, hb2, hb3⟩ := hb
  refine contract_of (n := 2) G_ref18_Same_ok hB hD Try.func22 hb1 (by kernel_rfl) hb2 hb3 (rs := [.tmp 4]) (by kernel_rfl) (by decide) ?_ ?_
  · intro args x h
    obtain ⟨y, hy, -⟩ := Option.map_eq_some_iff.1 h
    obtain ⟨⟨l, f, q, g⟩, rfl, -⟩ := specE_some hy
    rfl
  · intro args r hr
    obtain ⟨y, hy, rfl⟩ := Option.map_eq_some_iff.1 hr
    obtain ⟨⟨l, f, q, g⟩, rfl, hc, rfl⟩ := specE_some hy
    clear hr hy
    have hc : l.length < 4000000 := hc
    change awp _ _ (postQ _ (.v (.c (.s (.bool (decide (l = q))))))) _
    unfold sameOG_enc sc_ref18_Same
    by_cases h1 : l.length = q.length
    case neg =>
      have hi : ¬ (l.length : Int) = (q.length : Int) := by omega
      have hn : ¬ l = q := fun h => h1 (by rw [h])
      simp (maxSteps := 4000000) only [hi, hn, go_sem, Nat.reduceAdd, Nat.reduceSub, Nat.reduceMul, Nat.reduceEqDiff, Nat.reduceLeDiff, Nat.reduceLT, Nat.reduceBEq, Int.reduceLE, Int.reduceLT, Int.reduceToNat, Int.reduceNeg, Int.reduceAdd, Int.reduceSub, Int.reduceMul, ↓reduceIte]
    have hi : (l.length : Int) = (q.length : Int) := by omega
    simp (maxSteps := 4000000) only [hi, go_sem, Nat.reduceAdd, Nat.reduceSub, Nat.reduceMul, Nat.reduceEqDiff, Nat.reduceLeDiff, Nat.reduceLT, Nat.reduceBEq, Int.reduceLE, Int.reduceLT, Int.reduceToNat, Int.reduceNeg, Int.reduceAdd, Int.reduceSub, Int.reduceMul, ↓reduceIte]
    refine awp_loopM (α := Nat) (fun i => [(0, .c (.s (.list 3 (encs opE l) f))), (1, .c (.s (.list 3 (encs opE q) g))), (5, .c (.s (.int .i64 i)))]) (fun _ => []) (fun i => l.length - i) 0 (fun i => i ≤ l.length ∧ l.take i = q.take i) ⟨Nat.zero_le _, by simp⟩ (Weak.meets ?_) ?_
    · simp (maxSteps := 4000000) only [go_sem, Nat.reduceAdd, Nat.reduceSub, Nat.reduceMul, Nat.reduceEqDiff, Nat.reduceLeDiff, Nat.reduceLT, Nat.reduceBEq, Int.reduceLE, Int.reduceLT, Int.reduceToNat, Int.reduceNeg, Int.reduceAdd, Int.reduceSub, Int.reduceMul, ↓reduceIte]
      simp
    rintro x ⟨hx, hw⟩
    by_cases hxl : x < l.length
    · have hxi : (x : Int) < (l.length : Int) := by omega
      have hxi' : (x : Int) < (q.length : Int) := by omega
      by_cases h6 : l.getD x default = q.getD x default
      · have ht := take_eq_snoc hxl h1 hw h6
        simp (maxSteps := 4000000) only [hxi, hxi', h6, go_sem, Nat.reduceAdd, Nat.reduceSub, Nat.reduceMul, Nat.reduceEqDiff, Nat.reduceLeDiff, Nat.reduceLT, Nat.reduceBEq, Int.reduceLE, Int.reduceLT, Int.reduceToNat, Int.reduceNeg, Int.reduceAdd, Int.reduceSub, Int.reduceMul, ↓reduceIte]
        exact ⟨by omega, x + 1, ⟨by omega, ht⟩, by omega, by omega⟩
      · have hn : ¬ l = q := fun h => h6 (by rw [h])
        simp (maxSteps := 4000000) only [hxi, hxi', hn, go_sem, Nat.reduceAdd, Nat.reduceSub, Nat.reduceMul, Nat.reduceEqDiff, Nat.reduceLeDiff, Nat.reduceLT, Nat.reduceBEq, Int.reduceLE, Int.reduceLT, Int.reduceToNat, Int.reduceNeg, Int.reduceAdd, Int.reduceSub, Int.reduceMul, ↓reduceIte]
        rintro ⟨e1, e2, e3⟩
        exfalso; apply h6
        cases h7 : l.getD x default with | mk s1 w1 => cases h8 : q.getD x default with | mk s2 w2 =>
        rw [h7, h8] at e1 e2 e3; cases w1; cases w2; simp only at e1 e2 e3; rw [e1, e2, e3]
    have hxi : ¬ (x : Int) < (l.length : Int) := by omega
    obtain rfl : x = l.length := by omega
    rw [List.take_length, h1, List.take_length] at hw
    subst hw
    simp (maxSteps := 4000000) only [hxi, go_sem, Nat.reduceAdd, Nat.reduceSub, Nat.reduceMul, Nat.reduceEqDiff, Nat.reduceLeDiff, Nat.reduceLT, Nat.reduceBEq, Int.reduceLE, Int.reduceLT, Int.reduceToNat, Int.reduceNeg, Int.reduceAdd, Int.reduceSub, Int.reduceMul, ↓reduceIte]

end Go.Proofs.Ytniioedflegdkaa
