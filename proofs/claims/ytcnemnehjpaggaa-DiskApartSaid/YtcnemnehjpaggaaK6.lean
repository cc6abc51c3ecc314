/- What is fixed of the disk: a fixed answer. -/
import Derived.Test.YtcnemnehjpaggaaK5
set_option linter.all false
namespace Go.Proofs.Ytcnemnehjpaggaa
open Go Go.Ab Go.Proofs Go.Fs
theorem op_lit {gt : Bool} {K : V → Prop} {ss : List Bs} {cs : List Wr} {f g : Bool} {b : Bool} {a : Int} {t : Bs} {n : Int} {fl : Bool} : callE runG [.agg [.s (.list 1 (encs strE ss) f), .s (.list 2 (encs wrE cs) g)], .c (.s (.list 3 [[.bool b, .int .i64 a, .str t]] fl)), .c (.s (.int .i64 n))] gt K =
    ((gt = true → ss.length < 4000000 ∧ cs.length < 4000000 ∧ [(⟨b, ⟨a, t⟩⟩ : DOp)].length < 4000000) ∧ bindV (ifV gt (.agg [.s (.list 1 (encs strE (runN ⟨ss, cs⟩ [⟨b, ⟨a, t⟩⟩] n).sectors) false), .s (.list 2 (encs wrE (runN ⟨ss, cs⟩ [⟨b, ⟨a, t⟩⟩] n).cache) false)])) K) :=
  runG_call (l := [⟨b, ⟨a, t⟩⟩])
theorem op_lito {m : Nat → Option Ab.Obj} {locs : List Nat} {K : V → (Nat → Option Ab.Obj) → Prop} {ss : List Bs} {cs : List Wr} {f g : Bool} {b : Bool} {a : Int} {t : Bs} {n : Int} {fl : Bool} : callO runG (some [.agg [.s (.list 1 (encs strE ss) f), .s (.list 2 (encs wrE cs) g)], .c (.s (.list 3 [[.bool b, .int .i64 a, .str t]] fl)), .c (.s (.int .i64 n))]) m locs K =
    ((ss.length < 4000000 ∧ cs.length < 4000000 ∧ [(⟨b, ⟨a, t⟩⟩ : DOp)].length < 4000000) ∧ K (.agg [.s (.list 1 (encs strE (runN ⟨ss, cs⟩ [⟨b, ⟨a, t⟩⟩] n).sectors) false), .s (.list 2 (encs wrE (runN ⟨ss, cs⟩ [⟨b, ⟨a, t⟩⟩] n).cache) false)]) (sealW m locs (.agg [.s (.list 1 (encs strE (runN ⟨ss, cs⟩ [⟨b, ⟨a, t⟩⟩] n).sectors) false), .s (.list 2 (encs wrE (runN ⟨ss, cs⟩ [⟨b, ⟨a, t⟩⟩] n).cache) false)]))) :=
  runG_callo (l := [⟨b, ⟨a, t⟩⟩])
theorem crash_nil_call {gt : Bool} {K : V → Prop} {ss : List Bs} {cs : List Wr} {f g : Bool} {k : Nat} {h : Bool} : callE crashG [.agg [.s (.list 1 (encs strE ss) f), .s (.list 2 (encs wrE cs) g)], .c (.s (.list k [] h))] gt K =
    ((gt = true → ((k = 1 ∨ ([] : List Int) = []) ∧ ([] : List Int).length < 4000000) ∧ ss.length < 4000000 ∧ cs.length < 4000000) ∧ bindV (ifV gt (.agg [.s (.list 1 (encs strE (crashD ⟨ss, cs⟩ []).sectors) false), .s (.list 2 (encs wrE (crashD ⟨ss, cs⟩ []).cache) false)])) K) :=
  crashG_call (keep := [])
def awakeG : List V → Option V
  | [] => some (.c (.s (.bool true)))
  | _ => none
theorem awakeG_call  {gt : Bool} {K : V → Prop} : callE awakeG [] gt K = bindV (ifV gt (.c (.s (.bool true)))) K := callE_all rfl
theorem awakeG_callo  {m : Nat → Option Ab.Obj} {locs : List Nat} {K : V → (Nat → Option Ab.Obj) → Prop} : callO awakeG (some []) m locs K = K (.c (.s (.bool true))) (sealW m locs (.c (.s (.bool true)))) := callO_all rfl
attribute [go_sem] awakeG_call awakeG_callo

def sc_law17_awake : SC := .seq (.reg [⟨some 0, .mv, [.k (.c (.s (.bool false)))], none⟩]) (.seq (.reg [⟨some 12, .call 10, [.k (.c (.s (.int .i64 2)))], none⟩,
⟨some 11, .mv, [.t 12], none⟩,
⟨some 13, .ext 0, [.t 11], none⟩,
⟨some 14, .ext 1, [.t 11], none⟩,
⟨some 1, .alloc [.list 0 [] true, .list 0 [] true], [], none⟩,
⟨none, .store 2 true, [.t 1, .t 13], none⟩,
⟨some 2, .mv, [.t 14], none⟩]) (.seq (.reg [⟨some 3, .mv, [.k (.c (.s (.str [48, 49, 50, 51, 52, 53, 54, 55, 56, 57, 97, 98, 99, 100, 101, 102, 48, 49, 50, 51, 52, 53, 54, 55, 56, 57, 97, 98, 99, 100, 101, 102])))], none⟩]) (.seq (.reg [⟨some 16, .load 2 true, [.t 1], none⟩,
⟨some 17, .mv, [.t 3], none⟩,
⟨some 18, .build [.int .i64 0, .str []] [(0, 1), (1, 1)], [.k (.c (.s (.int .i64 1))), .t 17], none⟩,
⟨some 19, .call 16, [.t 16, .t 18], none⟩,
⟨some 15, .mv, [.t 19], none⟩,
⟨some 20, .ext 0, [.t 15], none⟩,
⟨some 21, .ext 1, [.t 15], none⟩,
⟨none, .store 2 true, [.t 1, .t 20], none⟩,
⟨some 4, .mv, [.t 21], none⟩]) (.seq (.reg [⟨some 23, .load 2 true, [.t 1], none⟩,
⟨some 24, .call 15, [.t 23, .k (.c (.s (.int .i64 1)))], none⟩,
⟨some 22, .mv, [.t 24], none⟩,
⟨some 25, .ext 0, [.t 22], none⟩,
⟨some 26, .ext 1, [.t 22], none⟩,
⟨some 5, .mv, [.t 25], none⟩,
⟨some 6, .mv, [.t 26], none⟩]) (.seq (.reg [⟨some 28, .load 2 true, [.t 1], none⟩,
⟨some 29, .call 20, [.t 28, .k (.c (.s (.list 0 [] true)))], none⟩,
⟨some 30, .call 15, [.t 29, .k (.c (.s (.int .i64 1)))], none⟩,
⟨some 27, .mv, [.t 30], none⟩,
⟨some 31, .ext 0, [.t 27], none⟩,
⟨some 32, .ext 1, [.t 27], none⟩,
⟨some 7, .mv, [.t 31], none⟩,
⟨some 8, .mv, [.t 32], none⟩]) (.seq (.reg [⟨some 34, .load 2 true, [.t 1], none⟩,
⟨some 35, .build [.bool false, .int .i64 0, .str []] [(0, 1)], [.k (.c (.s (.bool true)))], none⟩,
⟨some 36, .bslice 3 1 [.bool false, .int .i64 0, .str []] [0], [.t 35], none⟩,
⟨some 37, .call 24, [.t 34, .t 36, .k (.c (.s (.int .i64 1)))], none⟩,
⟨some 38, .call 15, [.t 37, .k (.c (.s (.int .i64 1)))], none⟩,
⟨some 33, .mv, [.t 38], none⟩,
⟨some 39, .ext 0, [.t 33], none⟩,
⟨some 40, .ext 1, [.t 33], none⟩,
⟨some 9, .mv, [.t 39], none⟩,
⟨some 10, .mv, [.t 40], none⟩]) (.seq (.reg [⟨some 41, .mv, [.t 2], none⟩,
⟨some 42, .bin .eql, [.t 41, .k (.c (.s (.int .i64 0)))], none⟩,
⟨some 43, .mv, [.t 42], none⟩,
⟨some 44, .mv, [.t 4], some (43, true)⟩,
⟨some 45, .bin .eql, [.t 44, .k (.c (.s (.int .i64 0)))], some (43, true)⟩,
⟨some 46, .pick, [.t 43, .t 45, .k (.c (.s (.bool false)))], none⟩,
⟨some 47, .mv, [.t 46], none⟩,
⟨some 48, .mv, [.t 5], some (47, true)⟩,
⟨some 49, .mv, [.t 3], some (47, true)⟩,
⟨some 50, .bin .eql, [.t 48, .t 49], some (47, true)⟩,
⟨some 51, .pick, [.t 47, .t 50, .k (.c (.s (.bool false)))], none⟩,
⟨some 52, .mv, [.t 51], none⟩,
⟨some 53, .mv, [.t 6], some (52, true)⟩,
⟨some 54, .bin .eql, [.t 53, .k (.c (.s (.int .i64 0)))], some (52, true)⟩,
⟨some 55, .pick, [.t 52, .t 54, .k (.c (.s (.bool false)))], none⟩,
⟨some 56, .mv, [.t 55], none⟩,
⟨some 57, .mv, [.t 7], some (56, true)⟩,
⟨some 58, .len true, [.t 57], some (56, true)⟩,
⟨some 59, .bin .eql, [.t 58, .k (.c (.s (.int .i64 32)))], some (56, true)⟩,
⟨some 60, .pick, [.t 56, .t 59, .k (.c (.s (.bool false)))], none⟩,
⟨some 61, .mv, [.t 60], none⟩,
⟨some 62, .mv, [.t 7], some (61, true)⟩,
⟨some 63, .idx, [.t 62, .k (.c (.s (.int .i64 0)))], some (61, true)⟩,
⟨some 64, .bin .eql, [.t 63, .k (.c (.s (.int .u8 0)))], some (61, true)⟩,
⟨some 65, .pick, [.t 61, .t 64, .k (.c (.s (.bool false)))], none⟩,
⟨some 66, .mv, [.t 65], none⟩,
⟨some 67, .mv, [.t 8], some (66, true)⟩,
⟨some 68, .bin .eql, [.t 67, .k (.c (.s (.int .i64 0)))], some (66, true)⟩,
⟨some 69, .pick, [.t 66, .t 68, .k (.c (.s (.bool false)))], none⟩,
⟨some 70, .mv, [.t 69], none⟩,
⟨some 71, .mv, [.t 9], some (70, true)⟩,
⟨some 72, .mv, [.t 3], some (70, true)⟩,
⟨some 73, .bin .eql, [.t 71, .t 72], some (70, true)⟩,
⟨some 74, .pick, [.t 70, .t 73, .k (.c (.s (.bool false)))], none⟩,
⟨some 75, .mv, [.t 74], none⟩,
⟨some 76, .mv, [.t 10], some (75, true)⟩,
⟨some 77, .bin .eql, [.t 76, .k (.c (.s (.int .i64 0)))], some (75, true)⟩,
⟨some 78, .pick, [.t 75, .t 77, .k (.c (.s (.bool false)))], none⟩,
⟨some 79, .mv, [.t 78], none⟩,
⟨some 80, .load 2 true, [.t 1], some (79, true)⟩,
⟨some 81, .call 17, [.t 80], some (79, true)⟩,
⟨some 82, .pick, [.t 79, .t 81, .k (.c (.s (.bool false)))], none⟩,
⟨some 0, .mv, [.t 82], none⟩]) (.ret))))))))
noncomputable def G_law17_awake : FuncId → Ab.Spec := addS (addS (addS (addS (addS (addS (noS) 10 (plain newG)) 16 (plain putG)) 15 (plain readG)) 20 (plain crashG)) 24 (plain runG)) 17 (plain rightG)
theorem G_law17_awake_ok : ∀ f, Contract Try.prog f (G_law17_awake f) := (addS_ok (addS_ok (addS_ok (addS_ok (addS_ok (addS_ok (noS_ok _) contract_disk_New) contract_disk_Put) contract_disk_Read) contract_disk_Crash) contract_disk_Run) contract_disk_Right)
theorem G11_10 : G_law17_awake 10 = plain newG := by simp [G_law17_awake, addS]
theorem G11_16 : G_law17_awake 16 = plain putG := by simp [G_law17_awake, addS]
theorem G11_15 : G_law17_awake 15 = plain readG := by simp [G_law17_awake, addS]
theorem G11_20 : G_law17_awake 20 = plain crashG := by simp [G_law17_awake, addS]
theorem G11_24 : G_law17_awake 24 = plain runG := by simp [G_law17_awake, addS]
theorem G11_17 : G_law17_awake 17 = plain rightG := by simp [G_law17_awake, addS]
set_option maxHeartbeats 16000000 in
set_option maxRecDepth 1000000 in
set_option linter.unusedSimpArgs false in
set_option linter.unusedVariables false in
theorem contract_law17_awake : Contract Try.prog 11 (plain awakeG) := by
  have hb : ∃ c, Try.f11.body = some c ∧ codeOk 83 c = true ∧ cCode Try.prog c = sc_law17_awake := ⟨_, rfl, by kernel_rfl, by kernel_rfl⟩
  obtain ⟨c, hb1, hb2, hb3⟩ := hb
  refine contract_of (n := 0) G_law17_awake_ok hB hD Try.func11 hb1 (by kernel_rfl) hb2 hb3 (rs := [.tmp 0]) (by kernel_rfl) (by decide) ?_ ?_
  · intro args x h
    unfold plain awakeG at h
    split at h <;> simp_all
  · intro args r hr
    unfold plain awakeG at hr
    split at hr
    case h_2 => cases hr
    simp only [Option.map_some, Option.some.injEq] at hr
    subst hr
    unfold sc_law17_awake
    have h2 : newE 2 = 0 := by decide
    generalize hs : ([48, 49, 50, 51, 52, 53, 54, 55, 56, 57, 97, 98, 99, 100, 101, 102, 48, 49, 50, 51, 52, 53, 54, 55, 56, 57, 97, 98, 99, 100, 101, 102] : Bs) = s
    generalize h0 : newDI 2 = d0
    have l0 : d0.sectors.length = 2 ∧ d0.cache.length = 0 := by subst h0; decide
    generalize hp : (putW d0 ⟨1, s⟩).1 = d1
    have hq : (putW d0 ⟨1, s⟩).2 = 0 := by subst hs; subst h0; decide +kernel
    have l1 : d1.sectors.length = 2 ∧ d1.cache.length = 1 := by subst hp; subst hs; subst h0; decide +kernel
    have h3 : readD d1 1 = (s, 0) := by subst hp; subst hs; subst h0; decide +kernel
    generalize hcr : crashD d1 [] = d2
    have l2 : d2.sectors.length = 2 ∧ d2.cache.length = 0 := by subst hcr; subst hp; subst hs; subst h0; decide +kernel
    have h4 : readD d2 1 = (List.replicate 32 0, 0) := by subst hcr; subst hp; subst hs; subst h0; decide +kernel
    generalize hru : runN d1 [⟨true, ⟨0, []⟩⟩] 1 = d3
    have l3 : d3.sectors.length = 2 ∧ d3.cache.length = 0 := by subst hru; subst hp; subst hs; subst h0; decide +kernel
    have h5 : readD d3 1 = (s, 0) := by subst hru; subst hp; subst hs; subst h0; decide +kernel
    have h6 : rightD d1 = true := by subst hp; subst hs; subst h0; decide +kernel
    have h7 : ((List.replicate 32 (0 : UInt8)).length : Int) = 32 := by decide
    have h8 : (List.replicate 32 (0 : UInt8)).getD 0 0 = 0 := by decide
    clear hs
    simp +contextual (maxSteps := 4000000) only [↓exT_call G11_10, ↓exT_callo G11_10, ↓exT_calloG G11_10, ↓exT_call G11_16, ↓exT_callo G11_16, ↓exT_calloG G11_16, ↓exT_call G11_15, ↓exT_callo G11_15, ↓exT_calloG G11_15, ↓exT_call G11_20, ↓exT_callo G11_20, ↓exT_calloG G11_20, ↓exT_call G11_24, ↓exT_callo G11_24, ↓exT_calloG G11_24, ↓exT_call G11_17, ↓exT_callo G11_17, ↓exT_calloG G11_17, h0, h2, hp, hq, h3, hcr, hru, h4, h5, h6, h7, h8, l0.1, l0.2, l1.1, l1.2, l2.1, l2.2, l3.1, l3.2, op_lit, op_lito, crash_nil_call, go_sem, Nat.reduceAdd, Nat.reduceSub, Nat.reduceMul, Nat.reduceEqDiff, Nat.reduceLeDiff, Nat.reduceLT, Nat.reduceBEq, Int.reduceLE, Int.reduceLT, Int.reduceToNat, Int.reduceNeg, Int.reduceAdd, Int.reduceSub, Int.reduceMul, ↓reduceIte]
    trace_state

end Go.Proofs.Ytcnemnehjpaggaa
