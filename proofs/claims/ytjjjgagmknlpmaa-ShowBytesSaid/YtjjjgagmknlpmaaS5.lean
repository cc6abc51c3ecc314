/- What is fixed of the texts: a fixed answer; unlike texts; rows. -/
import Derived.Test.YtjjjgagmknlpmaaS4
import Derived.Test.YtjjjgagmknlpmaaTR5
set_option linter.all false
namespace Go.Proofs.Ytjjjgagmknlpmaa
open Go Go.Ab Go.Proofs Go.Fs
theorem textG_lit1 {m : Nat → Option Ab.Obj} {locs : List Nat} {K : V → (Nat → Option Ab.Obj) → Prop} {d x : Int} {w : Bs} {f : Bool} : callO textG (some [.c (.s (.list 3 [[.int .i64 d, .str w, .int .i64 x]] f))]) m locs K =
    K (.tup [.inl (.s (.str (textR [⟨d, w, x⟩]))), .inl (.s (.int .i64 (textE [⟨d, w, x⟩])))]) (sealW m locs (.tup [.inl (.s (.str (textR [⟨d, w, x⟩]))), .inl (.s (.int .i64 (textE [⟨d, w, x⟩])))])) :=
  textG_callo (t := [⟨d, w, x⟩])
theorem textG_lit3 {m : Nat → Option Ab.Obj} {locs : List Nat} {K : V → (Nat → Option Ab.Obj) → Prop} {d x e y g z : Int} {u v w : Bs} {f : Bool} : callO textG (some [.c (.s (.list 3 [[.int .i64 d, .str u, .int .i64 x], [.int .i64 e, .str v, .int .i64 y], [.int .i64 g, .str w, .int .i64 z]] f))]) m locs K =
    K (.tup [.inl (.s (.str (textR [⟨d, u, x⟩, ⟨e, v, y⟩, ⟨g, w, z⟩]))), .inl (.s (.int .i64 (textE [⟨d, u, x⟩, ⟨e, v, y⟩, ⟨g, w, z⟩])))]) (sealW m locs (.tup [.inl (.s (.str (textR [⟨d, u, x⟩, ⟨e, v, y⟩, ⟨g, w, z⟩]))), .inl (.s (.int .i64 (textE [⟨d, u, x⟩, ⟨e, v, y⟩, ⟨g, w, z⟩])))])) :=
  textG_callo (t := [⟨d, u, x⟩, ⟨e, v, y⟩, ⟨g, w, z⟩])
theorem partG_lit3 {m : Nat → Option Ab.Obj} {locs : List Nat} {K : V → (Nat → Option Ab.Obj) → Prop} {d x e y g z i : Int} {u v w : Bs} {f : Bool} : callO partG (some [.c (.s (.list 3 [[.int .i64 d, .str u, .int .i64 x], [.int .i64 e, .str v, .int .i64 y], [.int .i64 g, .str w, .int .i64 z]] f)), .c (.s (.int .i64 i))]) m locs K =
    K (.tup [.inl (.s (.str (partR [⟨d, u, x⟩, ⟨e, v, y⟩, ⟨g, w, z⟩] i))), .inl (.s (.int .i64 (partE [⟨d, u, x⟩, ⟨e, v, y⟩, ⟨g, w, z⟩] i)))]) (sealW m locs (.tup [.inl (.s (.str (partR [⟨d, u, x⟩, ⟨e, v, y⟩, ⟨g, w, z⟩] i))), .inl (.s (.int .i64 (partE [⟨d, u, x⟩, ⟨e, v, y⟩, ⟨g, w, z⟩] i)))])) :=
  partG_callo (t := [⟨d, u, x⟩, ⟨e, v, y⟩, ⟨g, w, z⟩])
def t3 : List Ln := [⟨0, [97], 3⟩, ⟨1, [98, 32, 99], 0⟩, ⟨0, [100], 0⟩]
theorem t3_text : textR t3 = [105, 110, 97, 99, 116, 105, 118, 101, 58, 32, 112, 114, 111, 116, 101, 99, 116, 58, 32, 97, 32, 123, 10, 32, 32, 34, 98, 32, 99, 34, 59, 10, 125, 10, 100, 59, 10] := by decide +kernel
theorem t3_e : textE t3 = 0 := by decide +kernel
theorem t3_part : partR t3 1 = [34, 98, 32, 99, 34, 59, 10] := by decide +kernel
theorem t3_pe : partE t3 1 = 0 := by decide +kernel
theorem t1_e : textE [⟨1, [], 0⟩] = 1 := by decide +kernel
def awakeSG : List V → Option V
  | [] => some (.c (.s (.bool true)))
  | _ => none
theorem awakeSG_call  {gt : Bool} {K : V → Prop} : callE awakeSG [] gt K = bindV (ifV gt (.c (.s (.bool true)))) K := callE_all rfl
theorem awakeSG_callo  {m : Nat → Option Ab.Obj} {locs : List Nat} {K : V → (Nat → Option Ab.Obj) → Prop} : callO awakeSG (some []) m locs K = K (.c (.s (.bool true))) (sealW m locs (.c (.s (.bool true)))) := callO_all rfl
attribute [go_sem] awakeSG_call awakeSG_callo

def sc_law04_awake : SC := .seq (.reg [⟨some 0, .mv, [.k (.c (.s (.bool false)))], none⟩]) (.seq (.reg [⟨some 8, .build [.int .i64 0, .str [], .int .i64 0] [(1, 1), (2, 1)], [.k (.c (.s (.str [97]))), .k (.c (.s (.int .i64 3)))], none⟩,
⟨some 9, .build [.int .i64 0, .str [], .int .i64 0] [(0, 1), (1, 1)], [.k (.c (.s (.int .i64 1))), .k (.c (.s (.str [98, 32, 99])))], none⟩,
⟨some 10, .build [.int .i64 0, .str [], .int .i64 0] [(1, 1)], [.k (.c (.s (.str [100])))], none⟩,
⟨some 11, .bslice 3 3 [.int .i64 0, .str [], .int .i64 0] [0, 1, 2], [.t 8, .t 9, .t 10], none⟩,
⟨some 1, .mv, [.t 11], none⟩]) (.seq (.reg [⟨some 13, .mv, [.t 1], none⟩,
⟨some 14, .call 11, [.t 13], none⟩,
⟨some 12, .mv, [.t 14], none⟩,
⟨some 15, .ext 0, [.t 12], none⟩,
⟨some 16, .ext 1, [.t 12], none⟩,
⟨some 2, .mv, [.t 15], none⟩,
⟨some 3, .mv, [.t 16], none⟩]) (.seq (.reg [⟨some 18, .mv, [.t 1], none⟩,
⟨some 19, .call 12, [.t 18, .k (.c (.s (.int .i64 1)))], none⟩,
⟨some 17, .mv, [.t 19], none⟩,
⟨some 20, .ext 0, [.t 17], none⟩,
⟨some 21, .ext 1, [.t 17], none⟩,
⟨some 4, .mv, [.t 20], none⟩,
⟨some 5, .mv, [.t 21], none⟩]) (.seq (.reg [⟨some 23, .build [.int .i64 0, .str [], .int .i64 0] [(0, 1)], [.k (.c (.s (.int .i64 1)))], none⟩,
⟨some 24, .bslice 3 1 [.int .i64 0, .str [], .int .i64 0] [0], [.t 23], none⟩,
⟨some 25, .call 11, [.t 24], none⟩,
⟨some 22, .mv, [.t 25], none⟩,
⟨some 26, .ext 0, [.t 22], none⟩,
⟨some 27, .ext 1, [.t 22], none⟩,
⟨some 6, .mv, [.t 26], none⟩,
⟨some 7, .mv, [.t 27], none⟩]) (.seq (.reg [⟨some 28, .mv, [.t 2], none⟩,
⟨some 29, .bin .eql, [.t 28, .k (.c (.s (.str [105, 110, 97, 99, 116, 105, 118, 101, 58, 32, 112, 114, 111, 116, 101, 99, 116, 58, 32, 97, 32, 123, 10, 32, 32, 34, 98, 32, 99, 34, 59, 10, 125, 10, 100, 59, 10])))], none⟩,
⟨some 30, .mv, [.t 29], none⟩,
⟨some 31, .mv, [.t 3], some (30, true)⟩,
⟨some 32, .bin .eql, [.t 31, .k (.c (.s (.int .i64 0)))], some (30, true)⟩,
⟨some 33, .pick, [.t 30, .t 32, .k (.c (.s (.bool false)))], none⟩,
⟨some 34, .mv, [.t 33], none⟩,
⟨some 35, .mv, [.t 4], some (34, true)⟩,
⟨some 36, .bin .eql, [.t 35, .k (.c (.s (.str [34, 98, 32, 99, 34, 59, 10])))], some (34, true)⟩,
⟨some 37, .pick, [.t 34, .t 36, .k (.c (.s (.bool false)))], none⟩,
⟨some 38, .mv, [.t 37], none⟩,
⟨some 39, .mv, [.t 5], some (38, true)⟩,
⟨some 40, .bin .eql, [.t 39, .k (.c (.s (.int .i64 0)))], some (38, true)⟩,
⟨some 41, .pick, [.t 38, .t 40, .k (.c (.s (.bool false)))], none⟩,
⟨some 42, .mv, [.t 41], none⟩,
⟨some 43, .mv, [.t 7], some (42, true)⟩,
⟨some 44, .bin .eql, [.t 43, .k (.c (.s (.int .i64 1)))], some (42, true)⟩,
⟨some 45, .pick, [.t 42, .t 44, .k (.c (.s (.bool false)))], none⟩,
⟨some 0, .mv, [.t 45], none⟩]) (.ret))))))
noncomputable def G_law04_awake : FuncId → Ab.Spec := addS (addS (noS) 11 (plain textG)) 12 (plain partG)
theorem G_law04_awake_ok : ∀ f, Contract Try.prog f (G_law04_awake f) := (addS_ok (addS_ok (noS_ok _) contract_show_Text) contract_show_Part)
theorem G10_11 : G_law04_awake 11 = plain textG := by simp [G_law04_awake, addS]
theorem G10_12 : G_law04_awake 12 = plain partG := by simp [G_law04_awake, addS]
set_option maxHeartbeats 16000000 in
set_option maxRecDepth 1000000 in
set_option linter.unusedSimpArgs false in
set_option linter.unusedVariables false in
theorem contract_law04_awake : Contract Try.prog 10 (plain awakeSG) := by
  have hb : ∃ c, Try.f10.body = some c ∧ codeOk 46 c = true ∧ cCode Try.prog c = sc_law04_awake := ⟨_, rfl, by kernel_rfl, by kernel_rfl⟩
  obtain ⟨c, hb1, hb2, hb3⟩ := hb
  refine contract_of (n := 0) G_law04_awake_ok hB hD Try.func10 hb1 (by kernel_rfl) hb2 hb3 (rs := [.tmp 0]) (by kernel_rfl) (by decide) ?_ ?_
  · intro args x h
    unfold plain awakeSG at h
    split at h <;> simp_all
  · intro args r hr
    unfold plain awakeSG at hr
    split at hr
    case h_2 => cases hr
    simp only [Option.map_some, Option.some.injEq] at hr
    subst hr
    unfold sc_law04_awake
    have e1 := t3_text
    have e2 := t3_e
    have e3 := t3_part
    have e4 := t3_pe
    have e5 := t1_e
    unfold t3 at e1 e2 e3 e4
    simp (maxSteps := 4000000) only [↓exT_call G10_11, ↓exT_callo G10_11, ↓exT_calloG G10_11, ↓exT_call G10_12, ↓exT_callo G10_12, ↓exT_calloG G10_12, textG_lit1, textG_lit3, partG_lit3, e1, e2, e3, e4, e5, go_sem, Nat.reduceAdd, Nat.reduceSub, Nat.reduceMul, Nat.reduceEqDiff, Nat.reduceLeDiff, Nat.reduceLT, Nat.reduceBEq, Int.reduceLE, Int.reduceLT, Int.reduceToNat, Int.reduceNeg, Int.reduceAdd, Int.reduceSub, Int.reduceMul, ↓reduceIte]

theorem textE_one {t : List Ln} : textE t = 0 ∨ textE t = 1 := by unfold textE; split <;> simp
theorem small_len {t : List Ln} (h : smallT t = true) : t.length ≤ 220 := by
  simp only [smallT, Bool.and_eq_true, decide_eq_true_eq] at h
  exact h.1
theorem u1 : ((123 : UInt8) = 59) = False := by decide
theorem u2 : ((125 : UInt8) = 59) = False := by decide
theorem u3 : ((125 : UInt8) = 123) = False := by decide
theorem i10 : ((1 : Int) = 0) = False := by simp
theorem text_yes {t : List Ln} (h : rightT t = true) : textR t = textT t ∧ textE t = 0 := by unfold textR textE; rw [h]; exact ⟨rfl, rfl⟩
theorem text_no {t : List Ln} (h : rightT t = false) : textR t = [] ∧ textE t = 1 := by unfold textR textE; rw [h]; exact ⟨rfl, rfl⟩
def apartG_enc : (List Ln) × (Bool) × (List Ln) × (Bool) → List V := fun ⟨a, f, b, g⟩ => [.c (.s (.list 3 (encs lnE a) f)), .c (.s (.list 3 (encs lnE b) g))]
theorem apartG_inj : ∀ x y, apartG_enc x = apartG_enc y → x = y := by
  rintro ⟨a, f, b, g⟩ ⟨a2, f2, b2, g2⟩ h
  simp only [apartG_enc, List.cons.injEq, V.c.injEq, V.agg.injEq, C.s.injEq, S.list.injEq, S.str.injEq, S.int.injEq, S.bool.injEq, S.fn.injEq, S.cref.injEq, strE_inj, true_and, and_true, lnE_inj] at h
  simp_all
noncomputable def apartG : List V → Option (V) := specE apartG_enc (fun ⟨a, f, b, g⟩ => True) (fun ⟨a, f, b, g⟩ => .c (.s (.bool true)))
theorem apartG_eq {a : List Ln} {f : Bool} {b : List Ln} {g : Bool} [Decidable (True)] : apartG [.c (.s (.list 3 (encs lnE a) f)), .c (.s (.list 3 (encs lnE b) g))] = if True then some (.c (.s (.bool true))) else none := specE_eq apartG_inj (a, f, b, g)
theorem apartG_call {a : List Ln} {f : Bool} {b : List Ln} {g : Bool} {gt : Bool} {K : V → Prop} : callE apartG [.c (.s (.list 3 (encs lnE a) f)), .c (.s (.list 3 (encs lnE b) g))] gt K = bindV (ifV gt (.c (.s (.bool true)))) K := callE_all (by rw [apartG_eq]; rfl)
theorem apartG_callo {a : List Ln} {f : Bool} {b : List Ln} {g : Bool} {m : Nat → Option Ab.Obj} {locs : List Nat} {K : V → (Nat → Option Ab.Obj) → Prop} : callO apartG (some [.c (.s (.list 3 (encs lnE a) f)), .c (.s (.list 3 (encs lnE b) g))]) m locs K = K (.c (.s (.bool true))) (sealW m locs (.c (.s (.bool true)))) := callO_all (by rw [apartG_eq]; rfl)
attribute [go_sem] apartG_call apartG_callo

def sc_law04_ShowApart : SC := .seq (.reg [⟨some 4, .mv, [.k (.c (.s (.bool false)))], none⟩]) (.seq (.seq (.reg [⟨some 9, .mv, [.t 0], none⟩,
⟨some 10, .call 9, [.t 9], none⟩,
⟨some 11, .not, [.t 10], none⟩,
⟨some 12, .mv, [.t 11], none⟩,
⟨some 13, .mv, [.t 1], some (12, false)⟩,
⟨some 14, .call 9, [.t 13], some (12, false)⟩,
⟨some 15, .not, [.t 14], some (12, false)⟩,
⟨some 16, .pick, [.t 12, .k (.c (.s (.bool true))), .t 15], none⟩]) (.cond (.t 16) (.seq (.reg [⟨some 17, .call 10, [], none⟩,
⟨some 4, .mv, [.t 17], none⟩]) (.ret)) (.skip))) (.seq (.reg [⟨some 19, .mv, [.t 0], none⟩,
⟨some 20, .call 11, [.t 19], none⟩,
⟨some 18, .mv, [.t 20], none⟩,
⟨some 21, .ext 0, [.t 18], none⟩,
⟨some 22, .ext 1, [.t 18], none⟩,
⟨some 5, .mv, [.t 21], none⟩,
⟨some 6, .mv, [.t 22], none⟩]) (.seq (.reg [⟨some 24, .mv, [.t 1], none⟩,
⟨some 25, .call 11, [.t 24], none⟩,
⟨some 23, .mv, [.t 25], none⟩,
⟨some 26, .ext 0, [.t 23], none⟩,
⟨some 27, .ext 1, [.t 23], none⟩,
⟨some 7, .mv, [.t 26], none⟩,
⟨some 8, .mv, [.t 27], none⟩]) (.seq (.seq (.reg [⟨some 28, .mv, [.t 6], none⟩,
⟨some 29, .bin .neq, [.t 28, .k (.c (.s (.int .i64 0)))], none⟩,
⟨some 30, .mv, [.t 29], none⟩,
⟨some 31, .mv, [.t 8], some (30, false)⟩,
⟨some 32, .bin .neq, [.t 31, .k (.c (.s (.int .i64 0)))], some (30, false)⟩,
⟨some 33, .pick, [.t 30, .k (.c (.s (.bool true))), .t 32], none⟩]) (.cond (.t 33) (.seq (.reg [⟨some 34, .mv, [.t 6], none⟩,
⟨some 35, .bin .eql, [.t 34, .k (.c (.s (.int .i64 0)))], none⟩,
⟨some 36, .mv, [.t 35], none⟩,
⟨some 37, .mv, [.t 5], some (36, false)⟩,
⟨some 38, .bin .eql, [.t 37, .k (.c (.s (.str [])))], some (36, false)⟩,
⟨some 39, .pick, [.t 36, .k (.c (.s (.bool true))), .t 38], none⟩,
⟨some 40, .mv, [.t 39], none⟩,
⟨some 41, .mv, [.t 8], some (40, true)⟩,
⟨some 42, .bin .eql, [.t 41, .k (.c (.s (.int .i64 0)))], some (40, true)⟩,
⟨some 43, .mv, [.t 42], some (40, true)⟩,
⟨some 44, .mv, [.t 7], some (43, false)⟩,
⟨some 45, .bin .eql, [.t 44, .k (.c (.s (.str [])))], some (43, false)⟩,
⟨some 46, .pick, [.t 43, .k (.c (.s (.bool true))), .t 45], some (40, true)⟩,
⟨some 47, .pick, [.t 40, .t 46, .k (.c (.s (.bool false)))], none⟩,
⟨some 48, .mv, [.t 47], none⟩,
⟨some 49, .call 10, [], some (48, true)⟩,
⟨some 50, .pick, [.t 48, .t 49, .k (.c (.s (.bool false)))], none⟩,
⟨some 4, .mv, [.t 50], none⟩]) (.ret)) (.skip))) (.seq (.reg [⟨some 51, .mv, [.t 5], none⟩,
⟨some 52, .mv, [.t 7], none⟩,
⟨some 53, .bin .eql, [.t 51, .t 52], none⟩,
⟨some 54, .mv, [.t 0], none⟩,
⟨some 55, .mv, [.t 1], none⟩,
⟨some 56, .call 16, [.t 54, .t 55], none⟩,
⟨some 57, .eqB false, [.t 53, .t 56], none⟩,
⟨some 58, .mv, [.t 57], none⟩,
⟨some 59, .call 10, [], some (58, true)⟩,
⟨some 60, .pick, [.t 58, .t 59, .k (.c (.s (.bool false)))], none⟩,
⟨some 4, .mv, [.t 60], none⟩]) (.ret))))))
noncomputable def G_law04_ShowApart : FuncId → Ab.Spec := addS (addS (addS (addS (noS) 9 (plain smallG)) 10 (plain awakeSG)) 11 (plain textG)) 16 (plain sameLnG)
theorem G_law04_ShowApart_ok : ∀ f, Contract Try.prog f (G_law04_ShowApart f) := (addS_ok (addS_ok (addS_ok (addS_ok (noS_ok _) contract_ref03_Small) contract_law04_awake) contract_show_Text) contract_ref03_Same)
theorem G4_9 : G_law04_ShowApart 9 = plain smallG := by simp [G_law04_ShowApart, addS]
theorem G4_10 : G_law04_ShowApart 10 = plain awakeSG := by simp [G_law04_ShowApart, addS]
theorem G4_11 : G_law04_ShowApart 11 = plain textG := by simp [G_law04_ShowApart, addS]
theorem G4_16 : G_law04_ShowApart 16 = plain sameLnG := by simp [G_law04_ShowApart, addS]
set_option maxHeartbeats 16000000 in
set_option maxRecDepth 1000000 in
set_option linter.unusedSimpArgs false in
set_option linter.unusedVariables false in
theorem contract_law04_ShowApart : Contract Try.prog 4 (plain apartG) := by
  have hb : ∃ c, Try.f4.body = some c ∧ codeOk 61 c = true ∧ cCode Try.prog c = sc_law04_ShowApart := ⟨_, rfl, by kernel_rfl, by kernel_rfl⟩
  obtain ⟨c, hb1, hb2, hb3⟩ := hb
  refine contract_of (n := 2) G_law04_ShowApart_ok hB hD Try.func4 hb1 (by kernel_rfl) hb2 hb3 (rs := [.tmp 4]) (by kernel_rfl) (by decide) ?_ ?_
  · intro args x h
    obtain ⟨y, hy, -⟩ := Option.map_eq_some_iff.1 h
    obtain ⟨⟨a, f, b, g⟩, rfl, -⟩ := specE_some hy
    rfl
  · intro args r hr
    obtain ⟨y, hy, rfl⟩ := Option.map_eq_some_iff.1 hr
    obtain ⟨⟨a, f, b, g⟩, rfl, hc, rfl⟩ := specE_some hy
    clear hr hy
    have hc : True := hc
    change awp _ _ (postQ _ (.v (.c (.s (.bool true))))) _
    unfold apartG_enc sc_law04_ShowApart
    cases ha : smallT a with
    | false => simp (maxSteps := 4000000) only [↓exT_call G4_9, ↓exT_callo G4_9, ↓exT_calloG G4_9, ↓exT_call G4_10, ↓exT_callo G4_10, ↓exT_calloG G4_10, ↓exT_call G4_11, ↓exT_callo G4_11, ↓exT_calloG G4_11, ↓exT_call G4_16, ↓exT_callo G4_16, ↓exT_calloG G4_16, ha, go_sem, Nat.reduceAdd, Nat.reduceSub, Nat.reduceMul, Nat.reduceEqDiff, Nat.reduceLeDiff, Nat.reduceLT, Nat.reduceBEq, Int.reduceLE, Int.reduceLT, Int.reduceToNat, Int.reduceNeg, Int.reduceAdd, Int.reduceSub, Int.reduceMul, ↓reduceIte]
    | true =>
    cases hb : smallT b with
    | false => simp (maxSteps := 4000000) only [↓exT_call G4_9, ↓exT_callo G4_9, ↓exT_calloG G4_9, ↓exT_call G4_10, ↓exT_callo G4_10, ↓exT_calloG G4_10, ↓exT_call G4_11, ↓exT_callo G4_11, ↓exT_calloG G4_11, ↓exT_call G4_16, ↓exT_callo G4_16, ↓exT_calloG G4_16, ha, hb, go_sem, Nat.reduceAdd, Nat.reduceSub, Nat.reduceMul, Nat.reduceEqDiff, Nat.reduceLeDiff, Nat.reduceLT, Nat.reduceBEq, Int.reduceLE, Int.reduceLT, Int.reduceToNat, Int.reduceNeg, Int.reduceAdd, Int.reduceSub, Int.reduceMul, ↓reduceIte]
    | true =>
    have l1 := small_len ha
    have l2 : a.length < 4000000 := by omega
    cases ra : rightT a with
    | false =>
      obtain ⟨a1, a2⟩ := text_no ra
      cases rb : rightT b with
      | false =>
        obtain ⟨b1, b2⟩ := text_no rb
        simp (maxSteps := 4000000) only [↓exT_call G4_9, ↓exT_callo G4_9, ↓exT_calloG G4_9, ↓exT_call G4_10, ↓exT_callo G4_10, ↓exT_calloG G4_10, ↓exT_call G4_11, ↓exT_callo G4_11, ↓exT_calloG G4_11, ↓exT_call G4_16, ↓exT_callo G4_16, ↓exT_calloG G4_16, i10, ha, hb, a1, a2, b1, b2, go_sem, Nat.reduceAdd, Nat.reduceSub, Nat.reduceMul, Nat.reduceEqDiff, Nat.reduceLeDiff, Nat.reduceLT, Nat.reduceBEq, Int.reduceLE, Int.reduceLT, Int.reduceToNat, Int.reduceNeg, Int.reduceAdd, Int.reduceSub, Int.reduceMul, ↓reduceIte]
      | true =>
        obtain ⟨b1, b2⟩ := text_yes rb
        simp (maxSteps := 4000000) only [↓exT_call G4_9, ↓exT_callo G4_9, ↓exT_calloG G4_9, ↓exT_call G4_10, ↓exT_callo G4_10, ↓exT_calloG G4_10, ↓exT_call G4_11, ↓exT_callo G4_11, ↓exT_calloG G4_11, ↓exT_call G4_16, ↓exT_callo G4_16, ↓exT_calloG G4_16, i10, ha, hb, a1, a2, b1, b2, go_sem, Nat.reduceAdd, Nat.reduceSub, Nat.reduceMul, Nat.reduceEqDiff, Nat.reduceLeDiff, Nat.reduceLT, Nat.reduceBEq, Int.reduceLE, Int.reduceLT, Int.reduceToNat, Int.reduceNeg, Int.reduceAdd, Int.reduceSub, Int.reduceMul, ↓reduceIte]
    | true =>
      obtain ⟨a1, a2⟩ := text_yes ra
      cases rb : rightT b with
      | false =>
        obtain ⟨b1, b2⟩ := text_no rb
        simp (maxSteps := 4000000) only [↓exT_call G4_9, ↓exT_callo G4_9, ↓exT_calloG G4_9, ↓exT_call G4_10, ↓exT_callo G4_10, ↓exT_calloG G4_10, ↓exT_call G4_11, ↓exT_callo G4_11, ↓exT_calloG G4_11, ↓exT_call G4_16, ↓exT_callo G4_16, ↓exT_calloG G4_16, i10, ha, hb, a1, a2, b1, b2, go_sem, Nat.reduceAdd, Nat.reduceSub, Nat.reduceMul, Nat.reduceEqDiff, Nat.reduceLeDiff, Nat.reduceLT, Nat.reduceBEq, Int.reduceLE, Int.reduceLT, Int.reduceToNat, Int.reduceNeg, Int.reduceAdd, Int.reduceSub, Int.reduceMul, ↓reduceIte]
      | true =>
        obtain ⟨b1, b2⟩ := text_yes rb
        have he : decide (textT a = textT b) = decide (a = b) := decide_eq_decide.2 ⟨fun h => text_inj (goS_sound (right_len ra).2) (goS_sound (right_len rb).2) h, fun h => by rw [h]⟩
        simp (maxSteps := 4000000) only [↓exT_call G4_9, ↓exT_callo G4_9, ↓exT_calloG G4_9, ↓exT_call G4_10, ↓exT_callo G4_10, ↓exT_calloG G4_10, ↓exT_call G4_11, ↓exT_callo G4_11, ↓exT_calloG G4_11, ↓exT_call G4_16, ↓exT_callo G4_16, ↓exT_calloG G4_16, i10, ha, hb, a1, a2, b1, b2, he, l2, go_sem, Nat.reduceAdd, Nat.reduceSub, Nat.reduceMul, Nat.reduceEqDiff, Nat.reduceLeDiff, Nat.reduceLT, Nat.reduceBEq, Int.reduceLE, Int.reduceLT, Int.reduceToNat, Int.reduceNeg, Int.reduceAdd, Int.reduceSub, Int.reduceMul, ↓reduceIte]

theorem leaves_len (t : List Ln) : (leavesT t).length ≤ t.length := numsU_len _ _
def rowsG_enc : (List Ln) × (Bool) → List V := fun ⟨t, f⟩ => [.c (.s (.list 3 (encs lnE t) f))]
theorem rowsG_inj : ∀ x y, rowsG_enc x = rowsG_enc y → x = y := by
  rintro ⟨t, f⟩ ⟨t2, f2⟩ h
  simp only [rowsG_enc, List.cons.injEq, V.c.injEq, V.agg.injEq, C.s.injEq, S.list.injEq, S.str.injEq, S.int.injEq, S.bool.injEq, S.fn.injEq, S.cref.injEq, strE_inj, true_and, and_true, lnE_inj] at h
  simp_all
noncomputable def rowsG : List V → Option (V) := specE rowsG_enc (fun ⟨t, f⟩ => True) (fun ⟨t, f⟩ => .c (.s (.bool true)))
theorem rowsG_eq {t : List Ln} {f : Bool} [Decidable (True)] : rowsG [.c (.s (.list 3 (encs lnE t) f))] = if True then some (.c (.s (.bool true))) else none := specE_eq rowsG_inj (t, f)
theorem rowsG_call {t : List Ln} {f : Bool} {gt : Bool} {K : V → Prop} : callE rowsG [.c (.s (.list 3 (encs lnE t) f))] gt K = bindV (ifV gt (.c (.s (.bool true)))) K := callE_all (by rw [rowsG_eq]; rfl)
theorem rowsG_callo {t : List Ln} {f : Bool} {m : Nat → Option Ab.Obj} {locs : List Nat} {K : V → (Nat → Option Ab.Obj) → Prop} : callO rowsG (some [.c (.s (.list 3 (encs lnE t) f))]) m locs K = K (.c (.s (.bool true))) (sealW m locs (.c (.s (.bool true)))) := callO_all (by rw [rowsG_eq]; rfl)
attribute [go_sem] rowsG_call rowsG_callo

def sc_law04_ShowRows : SC := .seq (.reg [⟨some 2, .mv, [.k (.c (.s (.bool false)))], none⟩]) (.seq (.seq (.reg [⟨some 7, .mv, [.t 0], none⟩,
⟨some 8, .call 9, [.t 7], none⟩,
⟨some 9, .not, [.t 8], none⟩]) (.cond (.t 9) (.seq (.reg [⟨some 10, .call 10, [], none⟩,
⟨some 2, .mv, [.t 10], none⟩]) (.ret)) (.skip))) (.seq (.reg [⟨some 12, .mv, [.t 0], none⟩,
⟨some 13, .call 11, [.t 12], none⟩,
⟨some 11, .mv, [.t 13], none⟩,
⟨some 14, .ext 0, [.t 11], none⟩,
⟨some 15, .ext 1, [.t 11], none⟩,
⟨some 3, .mv, [.t 14], none⟩,
⟨some 4, .mv, [.t 15], none⟩]) (.seq (.seq (.reg [⟨some 16, .mv, [.t 4], none⟩,
⟨some 17, .bin .neq, [.t 16, .k (.c (.s (.int .i64 0)))], none⟩]) (.cond (.t 17) (.seq (.reg [⟨some 18, .mv, [.t 3], none⟩,
⟨some 19, .bin .eql, [.t 18, .k (.c (.s (.str [])))], none⟩,
⟨some 20, .mv, [.t 19], none⟩,
⟨some 21, .call 10, [], some (20, true)⟩,
⟨some 22, .pick, [.t 20, .t 21, .k (.c (.s (.bool false)))], none⟩,
⟨some 2, .mv, [.t 22], none⟩]) (.ret)) (.skip))) (.seq (.reg [⟨some 5, .mv, [.k (.c (.s (.int .i64 0)))], none⟩]) (.seq (.seq (.reg [⟨some 23, .mv, [.t 3], none⟩,
⟨some 24, .len true, [.t 23], none⟩,
⟨some 25, .mv, [.k (.c (.s (.int .i64 0)))], none⟩]) (.block 0 (.loop (.seq (.reg [⟨some 26, .bin .lss, [.t 25, .t 24], none⟩]) (.seq (.cond (.t 26) (.skip) (.exit 0)) (.seq (.block 1 (.seq (.reg [⟨some 27, .mv, [.t 25], none⟩,
⟨some 6, .mv, [.t 27], none⟩]) (.seq (.reg [⟨some 28, .mv, [.t 3], none⟩,
⟨some 29, .mv, [.t 6], none⟩,
⟨some 30, .idx, [.t 28, .t 29], none⟩,
⟨some 31, .bin .eql, [.t 30, .k (.c (.s (.int .u8 10)))], none⟩]) (.cond (.t 31) (.seq (.reg [⟨some 32, .mv, [.t 5], none⟩,
⟨some 33, .bin .add, [.t 32, .k (.c (.s (.int .i64 1)))], none⟩,
⟨some 5, .mv, [.t 33], none⟩]) (.seq (.reg [⟨some 34, .mv, [.t 6], none⟩,
⟨some 35, .bin .eql, [.t 34, .k (.c (.s (.int .i64 0)))], none⟩,
⟨some 36, .mv, [.t 35], none⟩,
⟨some 37, .mv, [.t 3], some (36, false)⟩,
⟨some 38, .mv, [.t 6], some (36, false)⟩,
⟨some 39, .bin .sub, [.t 38, .k (.c (.s (.int .i64 1)))], some (36, false)⟩,
⟨some 40, .idx, [.t 37, .t 39], some (36, false)⟩,
⟨some 41, .bin .neq, [.t 40, .k (.c (.s (.int .u8 59)))], some (36, false)⟩,
⟨some 42, .mv, [.t 41], some (36, false)⟩,
⟨some 43, .mv, [.t 3], some (42, true)⟩,
⟨some 44, .mv, [.t 6], some (42, true)⟩,
⟨some 45, .bin .sub, [.t 44, .k (.c (.s (.int .i64 1)))], some (42, true)⟩,
⟨some 46, .idx, [.t 43, .t 45], some (42, true)⟩,
⟨some 47, .bin .neq, [.t 46, .k (.c (.s (.int .u8 123)))], some (42, true)⟩,
⟨some 48, .pick, [.t 42, .t 47, .k (.c (.s (.bool false)))], some (36, false)⟩,
⟨some 49, .mv, [.t 48], some (36, false)⟩,
⟨some 50, .mv, [.t 3], some (49, true)⟩,
⟨some 51, .mv, [.t 6], some (49, true)⟩,
⟨some 52, .bin .sub, [.t 51, .k (.c (.s (.int .i64 1)))], some (49, true)⟩,
⟨some 53, .idx, [.t 50, .t 52], some (49, true)⟩,
⟨some 54, .bin .neq, [.t 53, .k (.c (.s (.int .u8 125)))], some (49, true)⟩,
⟨some 55, .pick, [.t 49, .t 54, .k (.c (.s (.bool false)))], some (36, false)⟩,
⟨some 56, .pick, [.t 36, .k (.c (.s (.bool true))), .t 55], none⟩]) (.cond (.t 56) (.seq (.reg [⟨some 2, .mv, [.k (.c (.s (.bool false)))], none⟩]) (.ret)) (.skip)))) (.skip))))) (.reg [⟨some 57, .bin .add, [.t 25, .k (.c (.s (.int .i64 1)))], none⟩,
⟨some 25, .mv, [.t 57], none⟩]))))))) (.seq (.reg [⟨some 58, .mv, [.t 5], none⟩,
⟨some 59, .mv, [.t 0], none⟩,
⟨some 60, .len false, [.t 59], none⟩,
⟨some 61, .bin .mul, [.k (.c (.s (.int .i64 2))), .t 60], none⟩,
⟨some 62, .mv, [.t 0], none⟩,
⟨some 63, .call 17, [.t 62], none⟩,
⟨some 64, .len false, [.t 63], none⟩,
⟨some 65, .bin .sub, [.t 61, .t 64], none⟩,
⟨some 66, .bin .eql, [.t 58, .t 65], none⟩,
⟨some 67, .mv, [.t 66], none⟩,
⟨some 68, .mv, [.t 3], some (67, true)⟩,
⟨some 69, .bin .eql, [.t 68, .k (.c (.s (.str [])))], some (67, true)⟩,
⟨some 70, .mv, [.t 69], some (67, true)⟩,
⟨some 71, .mv, [.t 3], some (70, false)⟩,
⟨some 72, .mv, [.t 3], some (70, false)⟩,
⟨some 73, .len true, [.t 72], some (70, false)⟩,
⟨some 74, .bin .sub, [.t 73, .k (.c (.s (.int .i64 1)))], some (70, false)⟩,
⟨some 75, .idx, [.t 71, .t 74], some (70, false)⟩,
⟨some 76, .bin .eql, [.t 75, .k (.c (.s (.int .u8 10)))], some (70, false)⟩,
⟨some 77, .pick, [.t 70, .k (.c (.s (.bool true))), .t 76], some (67, true)⟩,
⟨some 78, .pick, [.t 67, .t 77, .k (.c (.s (.bool false)))], none⟩,
⟨some 79, .mv, [.t 78], none⟩,
⟨some 80, .call 10, [], some (79, true)⟩,
⟨some 81, .pick, [.t 79, .t 80, .k (.c (.s (.bool false)))], none⟩,
⟨some 2, .mv, [.t 81], none⟩]) (.ret)))))))
noncomputable def G_law04_ShowRows : FuncId → Ab.Spec := addS (addS (addS (addS (noS) 9 (plain smallG)) 10 (plain awakeSG)) 11 (plain textG)) 17 (fresh leavesG)
theorem G_law04_ShowRows_ok : ∀ f, Contract Try.prog f (G_law04_ShowRows f) := (addS_ok (addS_ok (addS_ok (addS_ok (noS_ok _) contract_ref03_Small) contract_law04_awake) contract_show_Text) contract_tree_Leaves)
theorem G7_9 : G_law04_ShowRows 9 = plain smallG := by simp [G_law04_ShowRows, addS]
theorem G7_10 : G_law04_ShowRows 10 = plain awakeSG := by simp [G_law04_ShowRows, addS]
theorem G7_11 : G_law04_ShowRows 11 = plain textG := by simp [G_law04_ShowRows, addS]
theorem G7_17 : G_law04_ShowRows 17 = fresh leavesG := by simp [G_law04_ShowRows, addS]
set_option maxHeartbeats 16000000 in
set_option maxRecDepth 1000000 in
set_option linter.unusedSimpArgs false in
set_option linter.unusedVariables false in
theorem contract_law04_ShowRows : Contract Try.prog 7 (plain rowsG) := by
  have hb : ∃ c, Try.f7.body = some c ∧ codeOk 82 c = true ∧ cCode Try.prog c = sc_law04_ShowRows := ⟨_, rfl, by kernel_rfl, by kernel_rfl⟩
  obtain ⟨c, hb1, hb2, hb3⟩ := hb
  refine contract_of (n := 1) G_law04_ShowRows_ok hB hD Try.func7 hb1 (by kernel_rfl) hb2 hb3 (rs := [.tmp 2]) (by kernel_rfl) (by decide) ?_ ?_
  · intro args x h
    obtain ⟨y, hy, -⟩ := Option.map_eq_some_iff.1 h
    obtain ⟨⟨t, f⟩, rfl, -⟩ := specE_some hy
    rfl
  · intro args r hr
    obtain ⟨y, hy, rfl⟩ := Option.map_eq_some_iff.1 hr
    obtain ⟨⟨t, f⟩, rfl, hc, rfl⟩ := specE_some hy
    clear hr hy
    have hc : True := hc
    change awp _ _ (postQ _ (.v (.c (.s (.bool true))))) _
    unfold rowsG_enc sc_law04_ShowRows
    cases ha : smallT t with
    | false => simp (maxSteps := 4000000) only [↓exT_call G7_9, ↓exT_callo G7_9, ↓exT_calloG G7_9, ↓exT_call G7_10, ↓exT_callo G7_10, ↓exT_calloG G7_10, ↓exT_call G7_11, ↓exT_callo G7_11, ↓exT_calloG G7_11, ↓exT_callf G7_17, ha, go_sem, Nat.reduceAdd, Nat.reduceSub, Nat.reduceMul, Nat.reduceEqDiff, Nat.reduceLeDiff, Nat.reduceLT, Nat.reduceBEq, Int.reduceLE, Int.reduceLT, Int.reduceToNat, Int.reduceNeg, Int.reduceAdd, Int.reduceSub, Int.reduceMul, ↓reduceIte]
    | true =>
    cases ra : rightT t with
    | false =>
      obtain ⟨a1, a2⟩ := text_no ra
      simp (maxSteps := 4000000) only [↓exT_call G7_9, ↓exT_callo G7_9, ↓exT_calloG G7_9, ↓exT_call G7_10, ↓exT_callo G7_10, ↓exT_calloG G7_10, ↓exT_call G7_11, ↓exT_callo G7_11, ↓exT_calloG G7_11, ↓exT_callf G7_17, i10, ha, a1, a2, go_sem, Nat.reduceAdd, Nat.reduceSub, Nat.reduceMul, Nat.reduceEqDiff, Nat.reduceLeDiff, Nat.reduceLT, Nat.reduceBEq, Int.reduceLE, Int.reduceLT, Int.reduceToNat, Int.reduceNeg, Int.reduceAdd, Int.reduceSub, Int.reduceMul, ↓reduceIte]
    | true =>
    obtain ⟨a1, a2⟩ := text_yes ra
    have hR := rows_text t
    have hb := rows_before hR
    have hl := rows_last hR
    have hc := rows_all ra
    have hlv : leavesI t = leavesT t := by unfold leavesI; rw [ra]; rfl
    obtain ⟨hl2, hg⟩ := right_len ra
    have htl := text_len (goS_sound hg)
    generalize hS : textT t = s at *
    simp (maxSteps := 4000000) only [↓exT_call G7_9, ↓exT_callo G7_9, ↓exT_calloG G7_9, ↓exT_call G7_10, ↓exT_callo G7_10, ↓exT_calloG G7_10, ↓exT_call G7_11, ↓exT_callo G7_11, ↓exT_calloG G7_11, ↓exT_callf G7_17, i10, ha, a1, a2, go_sem, Nat.reduceAdd, Nat.reduceSub, Nat.reduceMul, Nat.reduceEqDiff, Nat.reduceLeDiff, Nat.reduceLT, Nat.reduceBEq, Int.reduceLE, Int.reduceLT, Int.reduceToNat, Int.reduceNeg, Int.reduceAdd, Int.reduceSub, Int.reduceMul, ↓reduceIte]
    refine awp_loopM (α := Nat) (fun i => [(0, .c (.s (.list 3 (encs lnE t) f))), (3, .c (.s (.str s))), (5, .c (.s (.int .i64 (cntT (s.take i))))), (24, .c (.s (.int .i64 s.length))), (25, .c (.s (.int .i64 i)))]) (fun _ => []) (fun i => s.length - i) 0 (fun i => i ≤ s.length) (Nat.zero_le _) (Weak.meets ?_) ?_
    · simp (maxSteps := 4000000) only [↓exT_call G7_9, ↓exT_callo G7_9, ↓exT_calloG G7_9, ↓exT_call G7_10, ↓exT_callo G7_10, ↓exT_calloG G7_10, ↓exT_call G7_11, ↓exT_callo G7_11, ↓exT_calloG G7_11, ↓exT_callf G7_17, go_sem, Nat.reduceAdd, Nat.reduceSub, Nat.reduceMul, Nat.reduceEqDiff, Nat.reduceLeDiff, Nat.reduceLT, Nat.reduceBEq, Int.reduceLE, Int.reduceLT, Int.reduceToNat, Int.reduceNeg, Int.reduceAdd, Int.reduceSub, Int.reduceMul, ↓reduceIte]
      exact ⟨rfl, rfl⟩
    intro x hx
    by_cases hxl : x < s.length
    case neg =>
      have hxi : ¬ (x : Int) < (s.length : Int) := by omega
      obtain rfl : x = s.length := by omega
      rw [List.take_length]
      have hll := leaves_len t
      have hce : ((cntT s : Int) = 2 * (t.length : Int) - ((leavesT t).length : Int)) = True := eq_true hc
      by_cases hs0 : s = []
      · subst hs0
        simp (maxSteps := 4000000) only [↓exT_call G7_9, ↓exT_callo G7_9, ↓exT_calloG G7_9, ↓exT_call G7_10, ↓exT_callo G7_10, ↓exT_calloG G7_10, ↓exT_call G7_11, ↓exT_callo G7_11, ↓exT_calloG G7_11, ↓exT_callf G7_17, hxi, hlv, hce, go_sem, Nat.reduceAdd, Nat.reduceSub, Nat.reduceMul, Nat.reduceEqDiff, Nat.reduceLeDiff, Nat.reduceLT, Nat.reduceBEq, Int.reduceLE, Int.reduceLT, Int.reduceToNat, Int.reduceNeg, Int.reduceAdd, Int.reduceSub, Int.reduceMul, ↓reduceIte]
        exact ⟨by omega, by omega⟩
      · have hg10 := hl.resolve_left hs0
        have hs1 : 0 < s.length := List.length_pos_iff.2 hs0
        have hx1 : (0 : Int) ≤ (s.length : Int) - 1 := by omega
        have hx2 : (s.length : Int) - 1 < (s.length : Int) := by omega
        have hxn : ((s.length : Int) - 1).toNat = s.length - 1 := by omega
        simp (maxSteps := 4000000) only [↓exT_call G7_9, ↓exT_callo G7_9, ↓exT_calloG G7_9, ↓exT_call G7_10, ↓exT_callo G7_10, ↓exT_calloG G7_10, ↓exT_call G7_11, ↓exT_callo G7_11, ↓exT_calloG G7_11, ↓exT_callf G7_17, hxi, hlv, hce, hs0, hx1, hx2, hxn, hg10, go_sem, Nat.reduceAdd, Nat.reduceSub, Nat.reduceMul, Nat.reduceEqDiff, Nat.reduceLeDiff, Nat.reduceLT, Nat.reduceBEq, Int.reduceLE, Int.reduceLT, Int.reduceToNat, Int.reduceNeg, Int.reduceAdd, Int.reduceSub, Int.reduceMul, ↓reduceIte]
        exact ⟨by omega, by omega, by omega⟩
    have hxi : (x : Int) < (s.length : Int) := by omega
    have hcs : cntT (s.take (x + 1)) = cntT (s.take x) + (if s.getD x 0 = 10 then 1 else 0) := by
      have : s.take (x + 1) = s.take x ++ [s.getD x 0] := by rw [List.take_succ_eq_append_getElem hxl]; simp [hxl]
      rw [this, cnt_snoc]
    have hbx := hb x hxl
    have hcl := cnt_le (s.take x)
    rw [List.length_take] at hcl
    by_cases h10 : s.getD x 0 = 10
    case neg =>
      rw [if_neg h10] at hcs
      simp (maxSteps := 4000000) only [↓exT_call G7_9, ↓exT_callo G7_9, ↓exT_calloG G7_9, ↓exT_call G7_10, ↓exT_callo G7_10, ↓exT_calloG G7_10, ↓exT_call G7_11, ↓exT_callo G7_11, ↓exT_calloG G7_11, ↓exT_callf G7_17, hxi, h10, go_sem, Nat.reduceAdd, Nat.reduceSub, Nat.reduceMul, Nat.reduceEqDiff, Nat.reduceLeDiff, Nat.reduceLT, Nat.reduceBEq, Int.reduceLE, Int.reduceLT, Int.reduceToNat, Int.reduceNeg, Int.reduceAdd, Int.reduceSub, Int.reduceMul, ↓reduceIte]
      exact ⟨by omega, x + 1, by omega, by omega, by rw [hcs]; omega, by omega⟩
    rw [if_pos h10] at hcs
    obtain ⟨hx0, hbe⟩ := hbx h10
    have hxz : ¬ (x : Int) = 0 := by omega
    have hx1 : (0 : Int) ≤ (x : Int) - 1 := by omega
    have hx2 : (x : Int) - 1 < (s.length : Int) := by omega
    have hxn : ((x : Int) - 1).toNat = x - 1 := by omega
    rcases hbe with hbe | hbe | hbe
    · simp (maxSteps := 4000000) only [↓exT_call G7_9, ↓exT_callo G7_9, ↓exT_calloG G7_9, ↓exT_call G7_10, ↓exT_callo G7_10, ↓exT_calloG G7_10, ↓exT_call G7_11, ↓exT_callo G7_11, ↓exT_calloG G7_11, ↓exT_callf G7_17, hxi, h10, hxz, hx1, hx2, hxn, hbe, go_sem, Nat.reduceAdd, Nat.reduceSub, Nat.reduceMul, Nat.reduceEqDiff, Nat.reduceLeDiff, Nat.reduceLT, Nat.reduceBEq, Int.reduceLE, Int.reduceLT, Int.reduceToNat, Int.reduceNeg, Int.reduceAdd, Int.reduceSub, Int.reduceMul, ↓reduceIte]
      exact ⟨by omega, by omega, by omega, x + 1, by omega, by omega, by rw [hcs]; omega, by omega⟩
    · simp (maxSteps := 4000000) only [↓exT_call G7_9, ↓exT_callo G7_9, ↓exT_calloG G7_9, ↓exT_call G7_10, ↓exT_callo G7_10, ↓exT_calloG G7_10, ↓exT_call G7_11, ↓exT_callo G7_11, ↓exT_calloG G7_11, ↓exT_callf G7_17, hxi, h10, hxz, hx1, hx2, hxn, hbe, u1, go_sem, Nat.reduceAdd, Nat.reduceSub, Nat.reduceMul, Nat.reduceEqDiff, Nat.reduceLeDiff, Nat.reduceLT, Nat.reduceBEq, Int.reduceLE, Int.reduceLT, Int.reduceToNat, Int.reduceNeg, Int.reduceAdd, Int.reduceSub, Int.reduceMul, ↓reduceIte]
      exact ⟨by omega, by omega, by omega, by omega, x + 1, by omega, by omega, by rw [hcs]; omega, by omega⟩
    · simp (maxSteps := 4000000) only [↓exT_call G7_9, ↓exT_callo G7_9, ↓exT_calloG G7_9, ↓exT_call G7_10, ↓exT_callo G7_10, ↓exT_calloG G7_10, ↓exT_call G7_11, ↓exT_callo G7_11, ↓exT_calloG G7_11, ↓exT_callf G7_17, hxi, h10, hxz, hx1, hx2, hxn, hbe, u2, u3, go_sem, Nat.reduceAdd, Nat.reduceSub, Nat.reduceMul, Nat.reduceEqDiff, Nat.reduceLeDiff, Nat.reduceLT, Nat.reduceBEq, Int.reduceLE, Int.reduceLT, Int.reduceToNat, Int.reduceNeg, Int.reduceAdd, Int.reduceSub, Int.reduceMul, ↓reduceIte]
      exact ⟨by omega, by omega, by omega, by omega, by omega, x + 1, by omega, by omega, by rw [hcs]; omega, by omega⟩

end Go.Proofs.Ytjjjgagmknlpmaa
