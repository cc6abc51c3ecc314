/- The statements on disks, as functions: DiskExact. -/
import Derived.Test.YtcnemnehjpaggaaK7
set_option linter.all false
namespace Go.Proofs.Ytcnemnehjpaggaa
open Go Go.Ab Go.Proofs Go.Fs
def dExactG_enc : (List Bs) × (List Wr) × (Bool) × (Bool) × (Int) × (Int) × (Bs) × (List Int) × (Bool) → List V := fun ⟨ss, cs, f, g, at_, a, t, keep, h⟩ => [.agg [.s (.list 1 (encs strE ss) f), .s (.list 2 (encs wrE cs) g)], .c (.s (.int .i64 at_)), .agg [.s (.int .i64 a), .s (.str t)], .c (.s (.list 1 (encs numE keep) h))]
theorem dExactG_inj : ∀ x y, dExactG_enc x = dExactG_enc y → x = y := by
  rintro ⟨ss, cs, f, g, at_, a, t, keep, h⟩ ⟨ss2, cs2, f2, g2, at_2, a2, t2, keep2, h2⟩ h
  simp only [dExactG_enc, List.cons.injEq, V.c.injEq, V.agg.injEq, C.s.injEq, S.list.injEq, S.str.injEq, S.int.injEq, S.bool.injEq, S.fn.injEq, S.cref.injEq, strE_inj, true_and, and_true, wrE_inj, numE_inj] at h
  simp_all
noncomputable def dExactG : List V → Option (V) := specE dExactG_enc (fun ⟨ss, cs, f, g, at_, a, t, keep, h⟩ => fitC cs.length) (fun ⟨ss, cs, f, g, at_, a, t, keep, h⟩ => .c (.s (.bool true)))
theorem dExactG_eq {ss : List Bs} {cs : List Wr} {f : Bool} {g : Bool} {at_ : Int} {a : Int} {t : Bs} {keep : List Int} {h : Bool} [Decidable (fitC cs.length)] : dExactG [.agg [.s (.list 1 (encs strE ss) f), .s (.list 2 (encs wrE cs) g)], .c (.s (.int .i64 at_)), .agg [.s (.int .i64 a), .s (.str t)], .c (.s (.list 1 (encs numE keep) h))] = if fitC cs.length then some (.c (.s (.bool true))) else none := specE_eq dExactG_inj (ss, cs, f, g, at_, a, t, keep, h)
theorem dExactG_call {ss : List Bs} {cs : List Wr} {f : Bool} {g : Bool} {at_ : Int} {a : Int} {t : Bs} {keep : List Int} {h : Bool} {gt : Bool} {K : V → Prop} : callE dExactG [.agg [.s (.list 1 (encs strE ss) f), .s (.list 2 (encs wrE cs) g)], .c (.s (.int .i64 at_)), .agg [.s (.int .i64 a), .s (.str t)], .c (.s (.list 1 (encs numE keep) h))] gt K = ((gt = true → fitC cs.length) ∧ bindV (ifV gt (.c (.s (.bool true)))) K) := by
  have := Classical.propDecidable (fitC cs.length)
  exact callE_of dExactG_eq
theorem dExactG_callo {ss : List Bs} {cs : List Wr} {f : Bool} {g : Bool} {at_ : Int} {a : Int} {t : Bs} {keep : List Int} {h : Bool} {m : Nat → Option Ab.Obj} {locs : List Nat} {K : V → (Nat → Option Ab.Obj) → Prop} : callO dExactG (some [.agg [.s (.list 1 (encs strE ss) f), .s (.list 2 (encs wrE cs) g)], .c (.s (.int .i64 at_)), .agg [.s (.int .i64 a), .s (.str t)], .c (.s (.list 1 (encs numE keep) h))]) m locs K = ((fitC cs.length) ∧ K (.c (.s (.bool true))) (sealW m locs (.c (.s (.bool true))))) := by
  have := Classical.propDecidable (fitC cs.length)
  exact callO_of dExactG_eq
attribute [go_sem] dExactG_call dExactG_callo

def sc_law17_DiskExact : SC := .seq (.reg [⟨some 4, .box 2, [.t 0], none⟩,
⟨some 6, .box 2, [.t 2], none⟩,
⟨some 8, .mv, [.k (.c (.s (.bool false)))], none⟩]) (.seq (.reg [⟨some 16, .load 2 true, [.t 4], none⟩,
⟨some 17, .call 12, [.t 16], none⟩,
⟨some 9, .alloc [.list 0 [] true, .list 0 [] true], [], none⟩,
⟨none, .store 2 true, [.t 9, .t 17], none⟩]) (.seq (.seq (.reg [⟨some 18, .load 2 true, [.t 9], none⟩,
⟨some 19, .call 13, [.t 18], none⟩,
⟨some 20, .not, [.t 19], none⟩,
⟨some 21, .mv, [.t 20], none⟩,
⟨some 22, .fadr 1, [.t 6], some (21, false)⟩,
⟨some 23, .load 1 false, [.t 22], some (21, false)⟩,
⟨some 24, .len true, [.t 23], some (21, false)⟩,
⟨some 25, .bin .gtr, [.t 24, .k (.c (.s (.int .i64 60)))], some (21, false)⟩,
⟨some 26, .pick, [.t 21, .k (.c (.s (.bool true))), .t 25], none⟩,
⟨some 27, .mv, [.t 26], none⟩,
⟨some 28, .mv, [.t 3], some (27, false)⟩,
⟨some 29, .len false, [.t 28], some (27, false)⟩,
⟨some 30, .bin .gtr, [.t 29, .k (.c (.s (.int .i64 60)))], some (27, false)⟩,
⟨some 31, .pick, [.t 27, .k (.c (.s (.bool true))), .t 30], none⟩]) (.cond (.t 31) (.seq (.reg [⟨some 32, .call 11, [], none⟩,
⟨some 8, .mv, [.t 32], none⟩]) (.ret)) (.skip))) (.seq (.reg [⟨some 33, .load 2 true, [.t 9], none⟩,
⟨some 34, .call 14, [.t 33], none⟩,
⟨some 10, .mv, [.t 34], none⟩]) (.seq (.reg [⟨some 36, .load 2 true, [.t 4], none⟩,
⟨some 37, .mv, [.t 1], none⟩,
⟨some 38, .call 15, [.t 36, .t 37], none⟩,
⟨some 35, .mv, [.t 38], none⟩,
⟨some 39, .ext 0, [.t 35], none⟩,
⟨some 40, .ext 1, [.t 35], none⟩,
⟨some 11, .mv, [.t 39], none⟩,
⟨some 12, .mv, [.t 40], none⟩]) (.seq (.reg [⟨some 42, .load 2 true, [.t 4], none⟩,
⟨some 43, .load 2 true, [.t 6], none⟩,
⟨some 44, .call 16, [.t 42, .t 43], none⟩,
⟨some 41, .mv, [.t 44], none⟩,
⟨some 45, .ext 0, [.t 41], none⟩,
⟨some 46, .ext 1, [.t 41], none⟩,
⟨some 13, .alloc [.list 0 [] true, .list 0 [] true], [], none⟩,
⟨none, .store 2 true, [.t 13, .t 45], none⟩,
⟨some 14, .mv, [.t 46], none⟩]) (.seq (.seq (.reg [⟨some 47, .load 2 true, [.t 4], none⟩,
⟨some 48, .call 17, [.t 47], none⟩,
⟨some 49, .mv, [.t 10], none⟩,
⟨some 50, .eqB true, [.t 48, .t 49], none⟩]) (.cond (.t 50) (.seq (.reg [⟨some 8, .mv, [.k (.c (.s (.bool false)))], none⟩]) (.ret)) (.skip))) (.seq (.seq (.reg [⟨some 51, .mv, [.t 10], none⟩,
⟨some 52, .not, [.t 51], none⟩]) (.cond (.t 52) (.seq (.regD [⟨some 53, .mv, [.t 11], none⟩,
⟨some 54, .bin .eql, [.t 53, .k (.c (.s (.str [])))], none⟩,
⟨some 55, .mv, [.t 54], none⟩,
⟨some 56, .mv, [.t 12], some (55, true)⟩,
⟨some 57, .bin .eql, [.t 56, .k (.c (.s (.int .i64 1)))], some (55, true)⟩,
⟨some 58, .pick, [.t 55, .t 57, .k (.c (.s (.bool false)))], none⟩,
⟨some 59, .mv, [.t 58], none⟩,
⟨some 60, .mv, [.t 14], some (59, true)⟩,
⟨some 61, .bin .eql, [.t 60, .k (.c (.s (.int .i64 1)))], some (59, true)⟩,
⟨some 62, .pick, [.t 59, .t 61, .k (.c (.s (.bool false)))], none⟩,
⟨some 63, .mv, [.t 62], none⟩,
⟨some 64, .load 2 true, [.t 13], some (63, true)⟩,
⟨some 65, .load 2 true, [.t 9], some (63, true)⟩,
⟨some 66, .call 18, [.t 64, .t 65], some (63, true)⟩,
⟨some 67, .pick, [.t 63, .t 66, .k (.c (.s (.bool false)))], none⟩,
⟨some 68, .mv, [.t 67], none⟩,
⟨some 69, .load 2 true, [.t 4], some (68, true)⟩,
⟨some 70, .call 19, [.t 69], some (68, true)⟩,
⟨some 71, .load 2 true, [.t 9], some (68, true)⟩,
⟨some 72, .call 18, [.t 70, .t 71], some (68, true)⟩,
⟨some 73, .pick, [.t 68, .t 72, .k (.c (.s (.bool false)))], none⟩,
⟨some 74, .mv, [.t 73], none⟩,
⟨some 75, .load 2 true, [.t 4], some (74, true)⟩,
⟨some 76, .mv, [.t 3], some (74, true)⟩,
⟨some 77, .call 20, [.t 75, .t 76], some (74, true)⟩,
⟨some 78, .load 2 true, [.t 9], some (74, true)⟩,
⟨some 79, .call 18, [.t 77, .t 78], some (74, true)⟩,
⟨some 80, .pick, [.t 74, .t 79, .k (.c (.s (.bool false)))], none⟩,
⟨some 81, .mv, [.t 80], none⟩,
⟨some 82, .call 11, [], some (81, true)⟩,
⟨some 83, .pick, [.t 81, .t 82, .k (.c (.s (.bool false)))], none⟩,
⟨some 8, .mv, [.t 83], none⟩] [(17, 18), (24, 25)]) (.ret)) (.skip))) (.seq (.seq (.regD [⟨some 84, .load 2 true, [.t 4], none⟩,
⟨some 85, .call 19, [.t 84], none⟩,
⟨some 86, .load 2 true, [.t 9], none⟩,
⟨some 87, .call 21, [.t 86], none⟩,
⟨some 88, .call 18, [.t 85, .t 87], none⟩,
⟨some 89, .not, [.t 88], none⟩,
⟨some 90, .mv, [.t 89], none⟩,
⟨some 91, .load 2 true, [.t 4], some (90, false)⟩,
⟨some 92, .mv, [.t 3], some (90, false)⟩,
⟨some 93, .call 20, [.t 91, .t 92], some (90, false)⟩,
⟨some 94, .load 2 true, [.t 9], some (90, false)⟩,
⟨some 95, .mv, [.t 3], some (90, false)⟩,
⟨some 96, .call 22, [.t 94, .t 95], some (90, false)⟩,
⟨some 97, .call 18, [.t 93, .t 96], some (90, false)⟩,
⟨some 98, .not, [.t 97], some (90, false)⟩,
⟨some 99, .pick, [.t 90, .k (.c (.s (.bool true))), .t 98], none⟩] [(1, 2), (9, 10)]) (.cond (.t 99) (.seq (.reg [⟨some 8, .mv, [.k (.c (.s (.bool false)))], none⟩]) (.ret)) (.skip))) (.seq (.reg [⟨some 100, .mv, [.t 1], none⟩,
⟨some 101, .bin .geq, [.t 100, .k (.c (.s (.int .i64 0)))], none⟩,
⟨some 102, .mv, [.t 101], none⟩,
⟨some 103, .mv, [.t 1], some (102, true)⟩,
⟨some 104, .fadr 0, [.t 4], some (102, true)⟩,
⟨some 105, .load 1 false, [.t 104], some (102, true)⟩,
⟨some 106, .len false, [.t 105], some (102, true)⟩,
⟨some 107, .bin .lss, [.t 103, .t 106], some (102, true)⟩,
⟨some 108, .pick, [.t 102, .t 107, .k (.c (.s (.bool false)))], none⟩,
⟨some 15, .mv, [.t 108], none⟩]) (.seq (.seq (.reg [⟨some 109, .mv, [.t 15], none⟩,
⟨some 110, .mv, [.t 109], none⟩,
⟨some 111, .mv, [.t 11], some (110, true)⟩,
⟨some 112, .load 2 true, [.t 9], some (110, true)⟩,
⟨some 113, .mv, [.t 1], some (110, true)⟩,
⟨some 114, .call 23, [.t 112, .t 113], some (110, true)⟩,
⟨some 115, .bin .neq, [.t 111, .t 114], some (110, true)⟩,
⟨some 116, .mv, [.t 115], some (110, true)⟩,
⟨some 117, .mv, [.t 12], some (116, false)⟩,
⟨some 118, .bin .neq, [.t 117, .k (.c (.s (.int .i64 0)))], some (116, false)⟩,
⟨some 119, .pick, [.t 116, .k (.c (.s (.bool true))), .t 118], some (110, true)⟩,
⟨some 120, .pick, [.t 110, .t 119, .k (.c (.s (.bool false)))], none⟩,
⟨some 121, .mv, [.t 120], none⟩,
⟨some 122, .mv, [.t 15], some (121, false)⟩,
⟨some 123, .not, [.t 122], some (121, false)⟩,
⟨some 124, .mv, [.t 123], some (121, false)⟩,
⟨some 125, .mv, [.t 11], some (124, true)⟩,
⟨some 126, .bin .neq, [.t 125, .k (.c (.s (.str [])))], some (124, true)⟩,
⟨some 127, .mv, [.t 126], some (124, true)⟩,
⟨some 128, .mv, [.t 12], some (127, false)⟩,
⟨some 129, .bin .neq, [.t 128, .k (.c (.s (.int .i64 1)))], some (127, false)⟩,
⟨some 130, .pick, [.t 127, .k (.c (.s (.bool true))), .t 129], some (124, true)⟩,
⟨some 131, .pick, [.t 124, .t 130, .k (.c (.s (.bool false)))], some (121, false)⟩,
⟨some 132, .pick, [.t 121, .k (.c (.s (.bool true))), .t 131], none⟩]) (.cond (.t 132) (.seq (.reg [⟨some 8, .mv, [.k (.c (.s (.bool false)))], none⟩]) (.ret)) (.skip))) (.seq (.seq (.reg [⟨some 133, .fadr 0, [.t 6], none⟩,
⟨some 134, .load 1 false, [.t 133], none⟩,
⟨some 135, .bin .lss, [.t 134, .k (.c (.s (.int .i64 0)))], none⟩,
⟨some 136, .mv, [.t 135], none⟩,
⟨some 137, .fadr 0, [.t 6], some (136, false)⟩,
⟨some 138, .load 1 false, [.t 137], some (136, false)⟩,
⟨some 139, .fadr 0, [.t 4], some (136, false)⟩,
⟨some 140, .load 1 false, [.t 139], some (136, false)⟩,
⟨some 141, .len false, [.t 140], some (136, false)⟩,
⟨some 142, .bin .geq, [.t 138, .t 141], some (136, false)⟩,
⟨some 143, .pick, [.t 136, .k (.c (.s (.bool true))), .t 142], none⟩,
⟨some 144, .mv, [.t 143], none⟩,
⟨some 145, .fadr 1, [.t 6], some (144, false)⟩,
⟨some 146, .load 1 false, [.t 145], some (144, false)⟩,
⟨some 147, .len true, [.t 146], some (144, false)⟩,
⟨some 148, .bin .neq, [.t 147, .k (.c (.s (.int .i64 32)))], some (144, false)⟩,
⟨some 149, .pick, [.t 144, .k (.c (.s (.bool true))), .t 148], none⟩]) (.cond (.t 149) (.seq (.reg [⟨some 150, .mv, [.t 14], none⟩,
⟨some 151, .bin .eql, [.t 150, .k (.c (.s (.int .i64 1)))], none⟩,
⟨some 152, .mv, [.t 151], none⟩,
⟨some 153, .load 2 true, [.t 13], some (152, true)⟩,
⟨some 154, .load 2 true, [.t 9], some (152, true)⟩,
⟨some 155, .call 18, [.t 153, .t 154], some (152, true)⟩,
⟨some 156, .pick, [.t 152, .t 155, .k (.c (.s (.bool false)))], none⟩,
⟨some 157, .mv, [.t 156], none⟩,
⟨some 158, .call 11, [], some (157, true)⟩,
⟨some 159, .pick, [.t 157, .t 158, .k (.c (.s (.bool false)))], none⟩,
⟨some 8, .mv, [.t 159], none⟩]) (.ret)) (.skip))) (.seq (.seq (.reg [⟨some 160, .fadr 1, [.t 4], none⟩,
⟨some 161, .load 1 false, [.t 160], none⟩,
⟨some 162, .len false, [.t 161], none⟩,
⟨some 163, .bin .eql, [.t 162, .k (.c (.s (.int .i64 700)))], none⟩]) (.cond (.t 163) (.seq (.reg [⟨some 164, .mv, [.t 14], none⟩,
⟨some 165, .bin .eql, [.t 164, .k (.c (.s (.int .i64 10)))], none⟩,
⟨some 166, .mv, [.t 165], none⟩,
⟨some 167, .load 2 true, [.t 13], some (166, true)⟩,
⟨some 168, .load 2 true, [.t 9], some (166, true)⟩,
⟨some 169, .call 18, [.t 167, .t 168], some (166, true)⟩,
⟨some 170, .pick, [.t 166, .t 169, .k (.c (.s (.bool false)))], none⟩,
⟨some 171, .mv, [.t 170], none⟩,
⟨some 172, .call 11, [], some (171, true)⟩,
⟨some 173, .pick, [.t 171, .t 172, .k (.c (.s (.bool false)))], none⟩,
⟨some 8, .mv, [.t 173], none⟩]) (.ret)) (.skip))) (.seq (.regD [⟨some 174, .mv, [.t 14], none⟩,
⟨some 175, .bin .eql, [.t 174, .k (.c (.s (.int .i64 0)))], none⟩,
⟨some 176, .mv, [.t 175], none⟩,
⟨some 177, .load 2 true, [.t 13], some (176, true)⟩,
⟨some 178, .fadr 0, [.t 9], some (176, true)⟩,
⟨some 179, .load 1 false, [.t 178], some (176, true)⟩,
⟨some 180, .bslice 2 0 [.int .i64 0, .str []] [], [], some (176, true)⟩,
⟨some 181, .fadr 1, [.t 9], some (176, true)⟩,
⟨some 182, .load 1 false, [.t 181], some (176, true)⟩,
⟨some 183, .append false 2 24, [.t 180, .t 182], some (176, true)⟩,
⟨some 184, .load 2 true, [.t 6], some (176, true)⟩,
⟨some 185, .bslice 2 1 [.int .i64 0, .str []] [0], [.t 184], some (176, true)⟩,
⟨some 186, .append false 2 24, [.t 183, .t 185], some (176, true)⟩,
⟨some 187, .build [.list 0 [] true, .list 0 [] true] [(0, 1), (1, 1)], [.t 179, .t 186], some (176, true)⟩,
⟨some 188, .call 18, [.t 177, .t 187], some (176, true)⟩,
⟨some 189, .pick, [.t 176, .t 188, .k (.c (.s (.bool false)))], none⟩,
⟨some 190, .mv, [.t 189], none⟩,
⟨some 191, .call 11, [], some (190, true)⟩,
⟨some 192, .pick, [.t 190, .t 191, .k (.c (.s (.bool false)))], none⟩,
⟨some 8, .mv, [.t 192], none⟩] [(3, 6), (4, 6), (5, 6), (6, 7), (6, 8), (3, 9), (4, 9), (5, 9), (6, 10), (9, 10), (3, 11), (4, 11), (5, 11), (6, 11), (7, 11), (8, 11), (9, 11), (3, 12), (4, 12), (5, 12)]) (.ret))))))))))))))
noncomputable def G_law17_DiskExact : FuncId → Ab.Spec := addS (addS (addS (addS (addS (addS (addS (addS (addS (addS (addS (addS (addS (noS) 12 (plain refG)) 13 (plain smallG)) 11 (plain awakeG)) 14 (plain rRightG)) 15 (plain readG)) 16 (plain putG)) 17 (plain rightG)) 18 (plain sameG)) 19 (plain syncG)) 20 (plain crashG)) 21 (plain rSyncG)) 22 (plain rCrashG)) 23 (plain rReadG)
theorem G_law17_DiskExact_ok : ∀ f, Contract Try.prog f (G_law17_DiskExact f) := (addS_ok (addS_ok (addS_ok (addS_ok (addS_ok (addS_ok (addS_ok (addS_ok (addS_ok (addS_ok (addS_ok (addS_ok (addS_ok (noS_ok _) contract_law17_Ref) contract_ref17_Small) contract_law17_awake) contract_ref17_Right) contract_disk_Read) contract_disk_Put) contract_disk_Right) contract_law17_same) contract_disk_Sync) contract_disk_Crash) contract_ref17_Sync) contract_ref17_Crash) contract_ref17_Read)
theorem G4_12 : G_law17_DiskExact 12 = plain refG := by simp [G_law17_DiskExact, addS]
theorem G4_13 : G_law17_DiskExact 13 = plain smallG := by simp [G_law17_DiskExact, addS]
theorem G4_11 : G_law17_DiskExact 11 = plain awakeG := by simp [G_law17_DiskExact, addS]
theorem G4_14 : G_law17_DiskExact 14 = plain rRightG := by simp [G_law17_DiskExact, addS]
theorem G4_15 : G_law17_DiskExact 15 = plain readG := by simp [G_law17_DiskExact, addS]
theorem G4_16 : G_law17_DiskExact 16 = plain putG := by simp [G_law17_DiskExact, addS]
theorem G4_17 : G_law17_DiskExact 17 = plain rightG := by simp [G_law17_DiskExact, addS]
theorem G4_18 : G_law17_DiskExact 18 = plain sameG := by simp [G_law17_DiskExact, addS]
theorem G4_19 : G_law17_DiskExact 19 = plain syncG := by simp [G_law17_DiskExact, addS]
theorem G4_20 : G_law17_DiskExact 20 = plain crashG := by simp [G_law17_DiskExact, addS]
theorem G4_21 : G_law17_DiskExact 21 = plain rSyncG := by simp [G_law17_DiskExact, addS]
theorem G4_22 : G_law17_DiskExact 22 = plain rCrashG := by simp [G_law17_DiskExact, addS]
theorem G4_23 : G_law17_DiskExact 23 = plain rReadG := by simp [G_law17_DiskExact, addS]
set_option maxHeartbeats 16000000 in
set_option maxRecDepth 1000000 in
set_option linter.unusedSimpArgs false in
set_option linter.unusedVariables false in
theorem contract_law17_DiskExact : Contract Try.prog 4 (plain dExactG) := by
  have hb : ∃ c, Try.f4.body = some c ∧ codeOk 193 c = true ∧ cCode Try.prog c = sc_law17_DiskExact := ⟨_, rfl, by kernel_rfl, by kernel_rfl⟩
  obtain ⟨c, hb1, hb2, hb3⟩ := hb
  refine contract_of (n := 4) G_law17_DiskExact_ok hB hD Try.func4 hb1 (by kernel_rfl) hb2 hb3 (rs := [.tmp 8]) (by kernel_rfl) (by decide) ?_ ?_
  · intro args x h
    obtain ⟨y, hy, -⟩ := Option.map_eq_some_iff.1 h
    obtain ⟨⟨ss, cs, f, g, at_, a, t, keep, h⟩, rfl, -⟩ := specE_some hy
    rfl
  · intro args r hr
    obtain ⟨y, hy, rfl⟩ := Option.map_eq_some_iff.1 hr
    obtain ⟨⟨ss, cs, f, g, at_, a, t, keep, h⟩, rfl, hc, rfl⟩ := specE_some hy
    clear hr hy
    have hc : fitC cs.length := hc
    change awp _ _ (postQ _ (.v (.c (.s (.bool true))))) _
    unfold dExactG_enc sc_law17_DiskExact
    have hfc := hc
    cases hsm9 : smallD ⟨ss, cs⟩ with
    | false => simp +contextual (maxSteps := 4000000) only [↓exT_call G4_12, ↓exT_callo G4_12, ↓exT_calloG G4_12, ↓exT_call G4_13, ↓exT_callo G4_13, ↓exT_calloG G4_13, ↓exT_call G4_11, ↓exT_callo G4_11, ↓exT_calloG G4_11, ↓exT_call G4_14, ↓exT_callo G4_14, ↓exT_calloG G4_14, ↓exT_call G4_15, ↓exT_callo G4_15, ↓exT_calloG G4_15, ↓exT_call G4_16, ↓exT_callo G4_16, ↓exT_calloG G4_16, ↓exT_call G4_17, ↓exT_callo G4_17, ↓exT_calloG G4_17, ↓exT_call G4_18, ↓exT_callo G4_18, ↓exT_calloG G4_18, ↓exT_call G4_19, ↓exT_callo G4_19, ↓exT_calloG G4_19, ↓exT_call G4_20, ↓exT_callo G4_20, ↓exT_calloG G4_20, ↓exT_call G4_21, ↓exT_callo G4_21, ↓exT_calloG G4_21, ↓exT_call G4_22, ↓exT_callo G4_22, ↓exT_calloG G4_22, ↓exT_call G4_23, ↓exT_callo G4_23, ↓exT_calloG G4_23, hfc, hsm9, go_sem, Nat.reduceAdd, Nat.reduceSub, Nat.reduceMul, Nat.reduceEqDiff, Nat.reduceLeDiff, Nat.reduceLT, Nat.reduceBEq, Int.reduceLE, Int.reduceLT, Int.reduceToNat, Int.reduceNeg, Int.reduceAdd, Int.reduceSub, Int.reduceMul, ↓reduceIte]
    | true =>
    obtain ⟨hc1, hc2⟩ := small_4 hsm9
    by_cases hc3 : keep.length < 4000000
    case neg =>
      have hb9 : 60 < (keep.length : Int) := by omega
      by_cases ht9 : 60 < (t.length : Int)
      · simp +contextual (maxSteps := 4000000) only [↓exT_call G4_12, ↓exT_callo G4_12, ↓exT_calloG G4_12, ↓exT_call G4_13, ↓exT_callo G4_13, ↓exT_calloG G4_13, ↓exT_call G4_11, ↓exT_callo G4_11, ↓exT_calloG G4_11, ↓exT_call G4_14, ↓exT_callo G4_14, ↓exT_calloG G4_14, ↓exT_call G4_15, ↓exT_callo G4_15, ↓exT_calloG G4_15, ↓exT_call G4_16, ↓exT_callo G4_16, ↓exT_calloG G4_16, ↓exT_call G4_17, ↓exT_callo G4_17, ↓exT_calloG G4_17, ↓exT_call G4_18, ↓exT_callo G4_18, ↓exT_calloG G4_18, ↓exT_call G4_19, ↓exT_callo G4_19, ↓exT_calloG G4_19, ↓exT_call G4_20, ↓exT_callo G4_20, ↓exT_calloG G4_20, ↓exT_call G4_21, ↓exT_callo G4_21, ↓exT_calloG G4_21, ↓exT_call G4_22, ↓exT_callo G4_22, ↓exT_calloG G4_22, ↓exT_call G4_23, ↓exT_callo G4_23, ↓exT_calloG G4_23, hfc, hsm9, hb9, ht9, go_sem, Nat.reduceAdd, Nat.reduceSub, Nat.reduceMul, Nat.reduceEqDiff, Nat.reduceLeDiff, Nat.reduceLT, Nat.reduceBEq, Int.reduceLE, Int.reduceLT, Int.reduceToNat, Int.reduceNeg, Int.reduceAdd, Int.reduceSub, Int.reduceMul, ↓reduceIte]
      · simp +contextual (maxSteps := 4000000) only [↓exT_call G4_12, ↓exT_callo G4_12, ↓exT_calloG G4_12, ↓exT_call G4_13, ↓exT_callo G4_13, ↓exT_calloG G4_13, ↓exT_call G4_11, ↓exT_callo G4_11, ↓exT_calloG G4_11, ↓exT_call G4_14, ↓exT_callo G4_14, ↓exT_calloG G4_14, ↓exT_call G4_15, ↓exT_callo G4_15, ↓exT_calloG G4_15, ↓exT_call G4_16, ↓exT_callo G4_16, ↓exT_calloG G4_16, ↓exT_call G4_17, ↓exT_callo G4_17, ↓exT_calloG G4_17, ↓exT_call G4_18, ↓exT_callo G4_18, ↓exT_calloG G4_18, ↓exT_call G4_19, ↓exT_callo G4_19, ↓exT_calloG G4_19, ↓exT_call G4_20, ↓exT_callo G4_20, ↓exT_calloG G4_20, ↓exT_call G4_21, ↓exT_callo G4_21, ↓exT_calloG G4_21, ↓exT_call G4_22, ↓exT_callo G4_22, ↓exT_calloG G4_22, ↓exT_call G4_23, ↓exT_callo G4_23, ↓exT_calloG G4_23, hfc, hsm9, hb9, ht9, go_sem, Nat.reduceAdd, Nat.reduceSub, Nat.reduceMul, Nat.reduceEqDiff, Nat.reduceLeDiff, Nat.reduceLT, Nat.reduceBEq, Int.reduceLE, Int.reduceLT, Int.reduceToNat, Int.reduceNeg, Int.reduceAdd, Int.reduceSub, Int.reduceMul, ↓reduceIte]
    have hc := And.intro hc1 (And.intro hc2 hc3)
    have l1 := put_len ⟨ss, cs⟩ ⟨a, t⟩
    have l2 := sync_len ⟨ss, cs⟩
    have l3 := crash_len ⟨ss, cs⟩ keep
    simp only at l1 l2 l3
    by_cases hg : smallD ⟨ss, cs⟩ = true ∧ t.length ≤ 60 ∧ keep.length ≤ 60
    case neg =>
      have e : (!smallD ⟨ss, cs⟩ || decide (60 < (t.length : Int)) || decide (60 < (keep.length : Int))) = true := by
        rw [Bool.or_eq_true, Bool.or_eq_true, decide_eq_true_eq, decide_eq_true_eq, Bool.not_eq_true']
        by_cases h1 : smallD ⟨ss, cs⟩ = true
        · have : ¬ (t.length ≤ 60 ∧ keep.length ≤ 60) := fun h => hg ⟨h1, h⟩
          omega
        · exact .inl (.inl (by simpa using h1))
      simp (maxSteps := 4000000) only [↓exT_call G4_12, ↓exT_callo G4_12, ↓exT_calloG G4_12, ↓exT_call G4_13, ↓exT_callo G4_13, ↓exT_calloG G4_13, ↓exT_call G4_11, ↓exT_callo G4_11, ↓exT_calloG G4_11, ↓exT_call G4_14, ↓exT_callo G4_14, ↓exT_calloG G4_14, ↓exT_call G4_15, ↓exT_callo G4_15, ↓exT_calloG G4_15, ↓exT_call G4_16, ↓exT_callo G4_16, ↓exT_calloG G4_16, ↓exT_call G4_17, ↓exT_callo G4_17, ↓exT_calloG G4_17, ↓exT_call G4_18, ↓exT_callo G4_18, ↓exT_calloG G4_18, ↓exT_call G4_19, ↓exT_callo G4_19, ↓exT_calloG G4_19, ↓exT_call G4_20, ↓exT_callo G4_20, ↓exT_calloG G4_20, ↓exT_call G4_21, ↓exT_callo G4_21, ↓exT_calloG G4_21, ↓exT_call G4_22, ↓exT_callo G4_22, ↓exT_calloG G4_22, ↓exT_call G4_23, ↓exT_callo G4_23, ↓exT_calloG G4_23, hfc, e, go_sem, Nat.reduceAdd, Nat.reduceSub, Nat.reduceMul, Nat.reduceEqDiff, Nat.reduceLeDiff, Nat.reduceLT, Nat.reduceBEq, Int.reduceLE, Int.reduceLT, Int.reduceToNat, Int.reduceNeg, Int.reduceAdd, Int.reduceSub, Int.reduceMul, ↓reduceIte]
      all_goals (try simp +contextual (maxSteps := 4000000) only [↓exT_call G4_12, ↓exT_callo G4_12, ↓exT_calloG G4_12, ↓exT_call G4_13, ↓exT_callo G4_13, ↓exT_calloG G4_13, ↓exT_call G4_11, ↓exT_callo G4_11, ↓exT_calloG G4_11, ↓exT_call G4_14, ↓exT_callo G4_14, ↓exT_calloG G4_14, ↓exT_call G4_15, ↓exT_callo G4_15, ↓exT_calloG G4_15, ↓exT_call G4_16, ↓exT_callo G4_16, ↓exT_calloG G4_16, ↓exT_call G4_17, ↓exT_callo G4_17, ↓exT_calloG G4_17, ↓exT_call G4_18, ↓exT_callo G4_18, ↓exT_calloG G4_18, ↓exT_call G4_19, ↓exT_callo G4_19, ↓exT_calloG G4_19, ↓exT_call G4_20, ↓exT_callo G4_20, ↓exT_calloG G4_20, ↓exT_call G4_21, ↓exT_callo G4_21, ↓exT_calloG G4_21, ↓exT_call G4_22, ↓exT_callo G4_22, ↓exT_calloG G4_22, ↓exT_call G4_23, ↓exT_callo G4_23, ↓exT_calloG G4_23, hfc, e, go_sem, Nat.reduceAdd, Nat.reduceSub, Nat.reduceMul, Nat.reduceEqDiff, Nat.reduceLeDiff, Nat.reduceLT, Nat.reduceBEq, Int.reduceLE, Int.reduceLT, Int.reduceToNat, Int.reduceNeg, Int.reduceAdd, Int.reduceSub, Int.reduceMul, ↓reduceIte])
      all_goals ((repeat' (first | with_reducible apply And.intro | intro)) <;> first | omega | (with_reducible rfl) | skip)
    obtain ⟨hsm, ht, hk⟩ := hg
    obtain ⟨q1, q2, -⟩ := (small_iff _).1 hsm
    simp only at q1 q2
    have ht' : ¬ 60 < (t.length : Int) := by omega
    have hk' : ¬ 60 < (keep.length : Int) := by omega
    cases hr : rightD ⟨ss, cs⟩ with
    | false =>
      have hd : readD ⟨ss, cs⟩ at_ = ([], 1) := by unfold readD; rw [hr, if_neg (by simp)]
      have hp := wrong_put hr ⟨a, t⟩
      have hs := wrong_sync hr
      have hc := wrong_crash hr keep
      simp (maxSteps := 4000000) only [↓exT_call G4_12, ↓exT_callo G4_12, ↓exT_calloG G4_12, ↓exT_call G4_13, ↓exT_callo G4_13, ↓exT_calloG G4_13, ↓exT_call G4_11, ↓exT_callo G4_11, ↓exT_calloG G4_11, ↓exT_call G4_14, ↓exT_callo G4_14, ↓exT_calloG G4_14, ↓exT_call G4_15, ↓exT_callo G4_15, ↓exT_calloG G4_15, ↓exT_call G4_16, ↓exT_callo G4_16, ↓exT_calloG G4_16, ↓exT_call G4_17, ↓exT_callo G4_17, ↓exT_calloG G4_17, ↓exT_call G4_18, ↓exT_callo G4_18, ↓exT_calloG G4_18, ↓exT_call G4_19, ↓exT_callo G4_19, ↓exT_calloG G4_19, ↓exT_call G4_20, ↓exT_callo G4_20, ↓exT_calloG G4_20, ↓exT_call G4_21, ↓exT_callo G4_21, ↓exT_calloG G4_21, ↓exT_call G4_22, ↓exT_callo G4_22, ↓exT_calloG G4_22, ↓exT_call G4_23, ↓exT_callo G4_23, ↓exT_calloG G4_23, hfc, hsm, ht', hk', hr, hd, hp, hs, hc, go_sem, Nat.reduceAdd, Nat.reduceSub, Nat.reduceMul, Nat.reduceEqDiff, Nat.reduceLeDiff, Nat.reduceLT, Nat.reduceBEq, Int.reduceLE, Int.reduceLT, Int.reduceToNat, Int.reduceNeg, Int.reduceAdd, Int.reduceSub, Int.reduceMul, ↓reduceIte]
      all_goals (try simp +contextual (maxSteps := 4000000) only [↓exT_call G4_12, ↓exT_callo G4_12, ↓exT_calloG G4_12, ↓exT_call G4_13, ↓exT_callo G4_13, ↓exT_calloG G4_13, ↓exT_call G4_11, ↓exT_callo G4_11, ↓exT_calloG G4_11, ↓exT_call G4_14, ↓exT_callo G4_14, ↓exT_calloG G4_14, ↓exT_call G4_15, ↓exT_callo G4_15, ↓exT_calloG G4_15, ↓exT_call G4_16, ↓exT_callo G4_16, ↓exT_calloG G4_16, ↓exT_call G4_17, ↓exT_callo G4_17, ↓exT_calloG G4_17, ↓exT_call G4_18, ↓exT_callo G4_18, ↓exT_calloG G4_18, ↓exT_call G4_19, ↓exT_callo G4_19, ↓exT_calloG G4_19, ↓exT_call G4_20, ↓exT_callo G4_20, ↓exT_calloG G4_20, ↓exT_call G4_21, ↓exT_callo G4_21, ↓exT_calloG G4_21, ↓exT_call G4_22, ↓exT_callo G4_22, ↓exT_calloG G4_22, ↓exT_call G4_23, ↓exT_callo G4_23, ↓exT_calloG G4_23, hfc, hsm, ht', hk', hr, hd, hp, hs, hc, go_sem, Nat.reduceAdd, Nat.reduceSub, Nat.reduceMul, Nat.reduceEqDiff, Nat.reduceLeDiff, Nat.reduceLT, Nat.reduceBEq, Int.reduceLE, Int.reduceLT, Int.reduceToNat, Int.reduceNeg, Int.reduceAdd, Int.reduceSub, Int.reduceMul, ↓reduceIte])
      all_goals ((repeat' (first | with_reducible apply And.intro | intro)) <;> first | omega | (with_reducible rfl) | skip)
    | true =>
    have hsy : rsyncD ⟨ss, cs⟩ = syncD ⟨ss, cs⟩ := by unfold rsyncD; rw [← sync_get hr, ← sync_cache hr]
    have hq3 : cs.length ≤ 700 := ((right_iff _).1 hr).2.2.1
    have hpt : (mayD ss.length ⟨a, t⟩ = false ∧ (decide (a < 0) || decide ((ss.length : Int) ≤ a) || !decide ((t.length : Int) = 32)) = true ∧ putW ⟨ss, cs⟩ ⟨a, t⟩ = (⟨ss, cs⟩, 1)) ∨
        ((decide (a < 0) || decide ((ss.length : Int) ≤ a) || !decide ((t.length : Int) = 32)) = false ∧ (cs.length : Int) = 700 ∧ putW ⟨ss, cs⟩ ⟨a, t⟩ = (⟨ss, cs⟩, 10)) ∨
        ((decide (a < 0) || decide ((ss.length : Int) ≤ a) || !decide ((t.length : Int) = 32)) = false ∧ ¬ (cs.length : Int) = 700 ∧ putW ⟨ss, cs⟩ ⟨a, t⟩ = (⟨ss, cs ++ [⟨a, t⟩]⟩, 0)) := by
      cases hm : mayD ss.length ⟨a, t⟩ with
      | false =>
        refine .inl ⟨rfl, ?_, by unfold putW; rw [hm, if_neg (by simp)]⟩
        simp only [mayD, Bool.and_eq_false_iff, decide_eq_false_iff_not] at hm
        simp only [Bool.or_eq_true, Bool.not_eq_true', decide_eq_true_eq, decide_eq_false_iff_not]; omega
      | true =>
        have e3 : (decide (a < 0) || decide ((ss.length : Int) ≤ a) || !decide ((t.length : Int) = 32)) = false := by
          simp only [mayD, Bool.and_eq_true, decide_eq_true_eq] at hm
          simp only [Bool.or_eq_false_iff, Bool.not_eq_false', decide_eq_true_eq, decide_eq_false_iff_not]; omega
        by_cases h7 : cs.length = 700
        · exact .inr (.inl ⟨e3, by omega, by unfold putW; rw [if_pos ⟨hr, hm⟩, if_pos (by simp only; omega)]⟩)
        · exact .inr (.inr ⟨e3, by omega, by unfold putW; rw [if_pos ⟨hr, hm⟩, if_neg (by simp only; omega)]⟩)
    have had : (∃ x, readD ⟨ss, cs⟩ at_ = (x, 0) ∧ (decide (0 ≤ at_) && decide (at_ < (ss.length : Int))) = true ∧ 0 ≤ at_ ∧ at_ < (ss.length : Int) ∧ getS ⟨ss, cs⟩ at_.toNat = x) ∨
        (readD ⟨ss, cs⟩ at_ = ([], 1) ∧ (decide (0 ≤ at_) && decide (at_ < (ss.length : Int))) = false) := by
      by_cases hat : 0 ≤ at_ ∧ at_ < (ss.length : Int)
      · exact .inl ⟨_, by unfold readD; rw [if_pos ⟨hr, hat⟩], by simp [hat.1, hat.2], hat.1, hat.2, rfl⟩
      · exact .inr ⟨by unfold readD; rw [if_neg (fun h => hat h.2)], by rw [Bool.eq_false_iff]; simpa using hat⟩
    rcases hpt with ⟨hm, e3, hp⟩ | ⟨e3, h7, hp⟩ | ⟨e3, h7, hp⟩
    · rcases had with ⟨rd, hd, e2, a0, a1, hgs⟩ | ⟨hd, e2⟩
      · simp (maxSteps := 4000000) only [↓exT_call G4_12, ↓exT_callo G4_12, ↓exT_calloG G4_12, ↓exT_call G4_13, ↓exT_callo G4_13, ↓exT_calloG G4_13, ↓exT_call G4_11, ↓exT_callo G4_11, ↓exT_calloG G4_11, ↓exT_call G4_14, ↓exT_callo G4_14, ↓exT_calloG G4_14, ↓exT_call G4_15, ↓exT_callo G4_15, ↓exT_calloG G4_15, ↓exT_call G4_16, ↓exT_callo G4_16, ↓exT_calloG G4_16, ↓exT_call G4_17, ↓exT_callo G4_17, ↓exT_calloG G4_17, ↓exT_call G4_18, ↓exT_callo G4_18, ↓exT_calloG G4_18, ↓exT_call G4_19, ↓exT_callo G4_19, ↓exT_calloG G4_19, ↓exT_call G4_20, ↓exT_callo G4_20, ↓exT_calloG G4_20, ↓exT_call G4_21, ↓exT_callo G4_21, ↓exT_calloG G4_21, ↓exT_call G4_22, ↓exT_callo G4_22, ↓exT_calloG G4_22, ↓exT_call G4_23, ↓exT_callo G4_23, ↓exT_calloG G4_23, hfc, hsm, ht', hk', hr, hd, hp, hsy, e2, e3, a0, a1, hgs, go_sem, Nat.reduceAdd, Nat.reduceSub, Nat.reduceMul, Nat.reduceEqDiff, Nat.reduceLeDiff, Nat.reduceLT, Nat.reduceBEq, Int.reduceLE, Int.reduceLT, Int.reduceToNat, Int.reduceNeg, Int.reduceAdd, Int.reduceSub, Int.reduceMul, ↓reduceIte]
        all_goals (try simp +contextual (maxSteps := 4000000) only [↓exT_call G4_12, ↓exT_callo G4_12, ↓exT_calloG G4_12, ↓exT_call G4_13, ↓exT_callo G4_13, ↓exT_calloG G4_13, ↓exT_call G4_11, ↓exT_callo G4_11, ↓exT_calloG G4_11, ↓exT_call G4_14, ↓exT_callo G4_14, ↓exT_calloG G4_14, ↓exT_call G4_15, ↓exT_callo G4_15, ↓exT_calloG G4_15, ↓exT_call G4_16, ↓exT_callo G4_16, ↓exT_calloG G4_16, ↓exT_call G4_17, ↓exT_callo G4_17, ↓exT_calloG G4_17, ↓exT_call G4_18, ↓exT_callo G4_18, ↓exT_calloG G4_18, ↓exT_call G4_19, ↓exT_callo G4_19, ↓exT_calloG G4_19, ↓exT_call G4_20, ↓exT_callo G4_20, ↓exT_calloG G4_20, ↓exT_call G4_21, ↓exT_callo G4_21, ↓exT_calloG G4_21, ↓exT_call G4_22, ↓exT_callo G4_22, ↓exT_calloG G4_22, ↓exT_call G4_23, ↓exT_callo G4_23, ↓exT_calloG G4_23, hfc, hsm, ht', hk', hr, hd, hp, hsy, e2, e3, a0, a1, hgs, go_sem, Nat.reduceAdd, Nat.reduceSub, Nat.reduceMul, Nat.reduceEqDiff, Nat.reduceLeDiff, Nat.reduceLT, Nat.reduceBEq, Int.reduceLE, Int.reduceLT, Int.reduceToNat, Int.reduceNeg, Int.reduceAdd, Int.reduceSub, Int.reduceMul, ↓reduceIte])
        all_goals ((repeat' (first | with_reducible apply And.intro | intro)) <;> first | omega | (with_reducible rfl) | skip)
      · simp (maxSteps := 4000000) only [↓exT_call G4_12, ↓exT_callo G4_12, ↓exT_calloG G4_12, ↓exT_call G4_13, ↓exT_callo G4_13, ↓exT_calloG G4_13, ↓exT_call G4_11, ↓exT_callo G4_11, ↓exT_calloG G4_11, ↓exT_call G4_14, ↓exT_callo G4_14, ↓exT_calloG G4_14, ↓exT_call G4_15, ↓exT_callo G4_15, ↓exT_calloG G4_15, ↓exT_call G4_16, ↓exT_callo G4_16, ↓exT_calloG G4_16, ↓exT_call G4_17, ↓exT_callo G4_17, ↓exT_calloG G4_17, ↓exT_call G4_18, ↓exT_callo G4_18, ↓exT_calloG G4_18, ↓exT_call G4_19, ↓exT_callo G4_19, ↓exT_calloG G4_19, ↓exT_call G4_20, ↓exT_callo G4_20, ↓exT_calloG G4_20, ↓exT_call G4_21, ↓exT_callo G4_21, ↓exT_calloG G4_21, ↓exT_call G4_22, ↓exT_callo G4_22, ↓exT_calloG G4_22, ↓exT_call G4_23, ↓exT_callo G4_23, ↓exT_calloG G4_23, hfc, hsm, ht', hk', hr, hd, hp, hsy, e2, e3, go_sem, Nat.reduceAdd, Nat.reduceSub, Nat.reduceMul, Nat.reduceEqDiff, Nat.reduceLeDiff, Nat.reduceLT, Nat.reduceBEq, Int.reduceLE, Int.reduceLT, Int.reduceToNat, Int.reduceNeg, Int.reduceAdd, Int.reduceSub, Int.reduceMul, ↓reduceIte]
        all_goals (try simp +contextual (maxSteps := 4000000) only [↓exT_call G4_12, ↓exT_callo G4_12, ↓exT_calloG G4_12, ↓exT_call G4_13, ↓exT_callo G4_13, ↓exT_calloG G4_13, ↓exT_call G4_11, ↓exT_callo G4_11, ↓exT_calloG G4_11, ↓exT_call G4_14, ↓exT_callo G4_14, ↓exT_calloG G4_14, ↓exT_call G4_15, ↓exT_callo G4_15, ↓exT_calloG G4_15, ↓exT_call G4_16, ↓exT_callo G4_16, ↓exT_calloG G4_16, ↓exT_call G4_17, ↓exT_callo G4_17, ↓exT_calloG G4_17, ↓exT_call G4_18, ↓exT_callo G4_18, ↓exT_calloG G4_18, ↓exT_call G4_19, ↓exT_callo G4_19, ↓exT_calloG G4_19, ↓exT_call G4_20, ↓exT_callo G4_20, ↓exT_calloG G4_20, ↓exT_call G4_21, ↓exT_callo G4_21, ↓exT_calloG G4_21, ↓exT_call G4_22, ↓exT_callo G4_22, ↓exT_calloG G4_22, ↓exT_call G4_23, ↓exT_callo G4_23, ↓exT_calloG G4_23, hfc, hsm, ht', hk', hr, hd, hp, hsy, e2, e3, go_sem, Nat.reduceAdd, Nat.reduceSub, Nat.reduceMul, Nat.reduceEqDiff, Nat.reduceLeDiff, Nat.reduceLT, Nat.reduceBEq, Int.reduceLE, Int.reduceLT, Int.reduceToNat, Int.reduceNeg, Int.reduceAdd, Int.reduceSub, Int.reduceMul, ↓reduceIte])
        all_goals ((repeat' (first | with_reducible apply And.intro | intro)) <;> first | omega | (with_reducible rfl) | skip)
    · rcases had with ⟨rd, hd, e2, a0, a1, hgs⟩ | ⟨hd, e2⟩
      · simp (maxSteps := 4000000) only [↓exT_call G4_12, ↓exT_callo G4_12, ↓exT_calloG G4_12, ↓exT_call G4_13, ↓exT_callo G4_13, ↓exT_calloG G4_13, ↓exT_call G4_11, ↓exT_callo G4_11, ↓exT_calloG G4_11, ↓exT_call G4_14, ↓exT_callo G4_14, ↓exT_calloG G4_14, ↓exT_call G4_15, ↓exT_callo G4_15, ↓exT_calloG G4_15, ↓exT_call G4_16, ↓exT_callo G4_16, ↓exT_calloG G4_16, ↓exT_call G4_17, ↓exT_callo G4_17, ↓exT_calloG G4_17, ↓exT_call G4_18, ↓exT_callo G4_18, ↓exT_calloG G4_18, ↓exT_call G4_19, ↓exT_callo G4_19, ↓exT_calloG G4_19, ↓exT_call G4_20, ↓exT_callo G4_20, ↓exT_calloG G4_20, ↓exT_call G4_21, ↓exT_callo G4_21, ↓exT_calloG G4_21, ↓exT_call G4_22, ↓exT_callo G4_22, ↓exT_calloG G4_22, ↓exT_call G4_23, ↓exT_callo G4_23, ↓exT_calloG G4_23, hfc, hsm, ht', hk', hr, hd, hp, hsy, e2, e3, a0, a1, hgs, h7, go_sem, Nat.reduceAdd, Nat.reduceSub, Nat.reduceMul, Nat.reduceEqDiff, Nat.reduceLeDiff, Nat.reduceLT, Nat.reduceBEq, Int.reduceLE, Int.reduceLT, Int.reduceToNat, Int.reduceNeg, Int.reduceAdd, Int.reduceSub, Int.reduceMul, ↓reduceIte]
        all_goals (try simp +contextual (maxSteps := 4000000) only [↓exT_call G4_12, ↓exT_callo G4_12, ↓exT_calloG G4_12, ↓exT_call G4_13, ↓exT_callo G4_13, ↓exT_calloG G4_13, ↓exT_call G4_11, ↓exT_callo G4_11, ↓exT_calloG G4_11, ↓exT_call G4_14, ↓exT_callo G4_14, ↓exT_calloG G4_14, ↓exT_call G4_15, ↓exT_callo G4_15, ↓exT_calloG G4_15, ↓exT_call G4_16, ↓exT_callo G4_16, ↓exT_calloG G4_16, ↓exT_call G4_17, ↓exT_callo G4_17, ↓exT_calloG G4_17, ↓exT_call G4_18, ↓exT_callo G4_18, ↓exT_calloG G4_18, ↓exT_call G4_19, ↓exT_callo G4_19, ↓exT_calloG G4_19, ↓exT_call G4_20, ↓exT_callo G4_20, ↓exT_calloG G4_20, ↓exT_call G4_21, ↓exT_callo G4_21, ↓exT_calloG G4_21, ↓exT_call G4_22, ↓exT_callo G4_22, ↓exT_calloG G4_22, ↓exT_call G4_23, ↓exT_callo G4_23, ↓exT_calloG G4_23, hfc, hsm, ht', hk', hr, hd, hp, hsy, e2, e3, a0, a1, hgs, h7, go_sem, Nat.reduceAdd, Nat.reduceSub, Nat.reduceMul, Nat.reduceEqDiff, Nat.reduceLeDiff, Nat.reduceLT, Nat.reduceBEq, Int.reduceLE, Int.reduceLT, Int.reduceToNat, Int.reduceNeg, Int.reduceAdd, Int.reduceSub, Int.reduceMul, ↓reduceIte])
        all_goals ((repeat' (first | with_reducible apply And.intro | intro)) <;> first | omega | (with_reducible rfl) | skip)
      · simp (maxSteps := 4000000) only [↓exT_call G4_12, ↓exT_callo G4_12, ↓exT_calloG G4_12, ↓exT_call G4_13, ↓exT_callo G4_13, ↓exT_calloG G4_13, ↓exT_call G4_11, ↓exT_callo G4_11, ↓exT_calloG G4_11, ↓exT_call G4_14, ↓exT_callo G4_14, ↓exT_calloG G4_14, ↓exT_call G4_15, ↓exT_callo G4_15, ↓exT_calloG G4_15, ↓exT_call G4_16, ↓exT_callo G4_16, ↓exT_calloG G4_16, ↓exT_call G4_17, ↓exT_callo G4_17, ↓exT_calloG G4_17, ↓exT_call G4_18, ↓exT_callo G4_18, ↓exT_calloG G4_18, ↓exT_call G4_19, ↓exT_callo G4_19, ↓exT_calloG G4_19, ↓exT_call G4_20, ↓exT_callo G4_20, ↓exT_calloG G4_20, ↓exT_call G4_21, ↓exT_callo G4_21, ↓exT_calloG G4_21, ↓exT_call G4_22, ↓exT_callo G4_22, ↓exT_calloG G4_22, ↓exT_call G4_23, ↓exT_callo G4_23, ↓exT_calloG G4_23, hfc, hsm, ht', hk', hr, hd, hp, hsy, e2, e3, h7, go_sem, Nat.reduceAdd, Nat.reduceSub, Nat.reduceMul, Nat.reduceEqDiff, Nat.reduceLeDiff, Nat.reduceLT, Nat.reduceBEq, Int.reduceLE, Int.reduceLT, Int.reduceToNat, Int.reduceNeg, Int.reduceAdd, Int.reduceSub, Int.reduceMul, ↓reduceIte]
        all_goals (try simp +contextual (maxSteps := 4000000) only [↓exT_call G4_12, ↓exT_callo G4_12, ↓exT_calloG G4_12, ↓exT_call G4_13, ↓exT_callo G4_13, ↓exT_calloG G4_13, ↓exT_call G4_11, ↓exT_callo G4_11, ↓exT_calloG G4_11, ↓exT_call G4_14, ↓exT_callo G4_14, ↓exT_calloG G4_14, ↓exT_call G4_15, ↓exT_callo G4_15, ↓exT_calloG G4_15, ↓exT_call G4_16, ↓exT_callo G4_16, ↓exT_calloG G4_16, ↓exT_call G4_17, ↓exT_callo G4_17, ↓exT_calloG G4_17, ↓exT_call G4_18, ↓exT_callo G4_18, ↓exT_calloG G4_18, ↓exT_call G4_19, ↓exT_callo G4_19, ↓exT_calloG G4_19, ↓exT_call G4_20, ↓exT_callo G4_20, ↓exT_calloG G4_20, ↓exT_call G4_21, ↓exT_callo G4_21, ↓exT_calloG G4_21, ↓exT_call G4_22, ↓exT_callo G4_22, ↓exT_calloG G4_22, ↓exT_call G4_23, ↓exT_callo G4_23, ↓exT_calloG G4_23, hfc, hsm, ht', hk', hr, hd, hp, hsy, e2, e3, h7, go_sem, Nat.reduceAdd, Nat.reduceSub, Nat.reduceMul, Nat.reduceEqDiff, Nat.reduceLeDiff, Nat.reduceLT, Nat.reduceBEq, Int.reduceLE, Int.reduceLT, Int.reduceToNat, Int.reduceNeg, Int.reduceAdd, Int.reduceSub, Int.reduceMul, ↓reduceIte])
        all_goals ((repeat' (first | with_reducible apply And.intro | intro)) <;> first | omega | (with_reducible rfl) | skip)
    · rcases had with ⟨rd, hd, e2, a0, a1, hgs⟩ | ⟨hd, e2⟩
      · simp (maxSteps := 4000000) only [↓exT_call G4_12, ↓exT_callo G4_12, ↓exT_calloG G4_12, ↓exT_call G4_13, ↓exT_callo G4_13, ↓exT_calloG G4_13, ↓exT_call G4_11, ↓exT_callo G4_11, ↓exT_calloG G4_11, ↓exT_call G4_14, ↓exT_callo G4_14, ↓exT_calloG G4_14, ↓exT_call G4_15, ↓exT_callo G4_15, ↓exT_calloG G4_15, ↓exT_call G4_16, ↓exT_callo G4_16, ↓exT_calloG G4_16, ↓exT_call G4_17, ↓exT_callo G4_17, ↓exT_calloG G4_17, ↓exT_call G4_18, ↓exT_callo G4_18, ↓exT_calloG G4_18, ↓exT_call G4_19, ↓exT_callo G4_19, ↓exT_calloG G4_19, ↓exT_call G4_20, ↓exT_callo G4_20, ↓exT_calloG G4_20, ↓exT_call G4_21, ↓exT_callo G4_21, ↓exT_calloG G4_21, ↓exT_call G4_22, ↓exT_callo G4_22, ↓exT_calloG G4_22, ↓exT_call G4_23, ↓exT_callo G4_23, ↓exT_calloG G4_23, hfc, hsm, ht', hk', hr, hd, hp, hsy, e2, e3, a0, a1, hgs, h7, wr_app, go_sem, Nat.reduceAdd, Nat.reduceSub, Nat.reduceMul, Nat.reduceEqDiff, Nat.reduceLeDiff, Nat.reduceLT, Nat.reduceBEq, Int.reduceLE, Int.reduceLT, Int.reduceToNat, Int.reduceNeg, Int.reduceAdd, Int.reduceSub, Int.reduceMul, ↓reduceIte]
        all_goals (try simp +contextual (maxSteps := 4000000) only [↓exT_call G4_12, ↓exT_callo G4_12, ↓exT_calloG G4_12, ↓exT_call G4_13, ↓exT_callo G4_13, ↓exT_calloG G4_13, ↓exT_call G4_11, ↓exT_callo G4_11, ↓exT_calloG G4_11, ↓exT_call G4_14, ↓exT_callo G4_14, ↓exT_calloG G4_14, ↓exT_call G4_15, ↓exT_callo G4_15, ↓exT_calloG G4_15, ↓exT_call G4_16, ↓exT_callo G4_16, ↓exT_calloG G4_16, ↓exT_call G4_17, ↓exT_callo G4_17, ↓exT_calloG G4_17, ↓exT_call G4_18, ↓exT_callo G4_18, ↓exT_calloG G4_18, ↓exT_call G4_19, ↓exT_callo G4_19, ↓exT_calloG G4_19, ↓exT_call G4_20, ↓exT_callo G4_20, ↓exT_calloG G4_20, ↓exT_call G4_21, ↓exT_callo G4_21, ↓exT_calloG G4_21, ↓exT_call G4_22, ↓exT_callo G4_22, ↓exT_calloG G4_22, ↓exT_call G4_23, ↓exT_callo G4_23, ↓exT_calloG G4_23, hfc, hsm, ht', hk', hr, hd, hp, hsy, e2, e3, a0, a1, hgs, h7, wr_app, go_sem, Nat.reduceAdd, Nat.reduceSub, Nat.reduceMul, Nat.reduceEqDiff, Nat.reduceLeDiff, Nat.reduceLT, Nat.reduceBEq, Int.reduceLE, Int.reduceLT, Int.reduceToNat, Int.reduceNeg, Int.reduceAdd, Int.reduceSub, Int.reduceMul, ↓reduceIte])
        all_goals ((repeat' (first | with_reducible apply And.intro | intro)) <;> first | omega | (with_reducible rfl) | skip)
      · simp (maxSteps := 4000000) only [↓exT_call G4_12, ↓exT_callo G4_12, ↓exT_calloG G4_12, ↓exT_call G4_13, ↓exT_callo G4_13, ↓exT_calloG G4_13, ↓exT_call G4_11, ↓exT_callo G4_11, ↓exT_calloG G4_11, ↓exT_call G4_14, ↓exT_callo G4_14, ↓exT_calloG G4_14, ↓exT_call G4_15, ↓exT_callo G4_15, ↓exT_calloG G4_15, ↓exT_call G4_16, ↓exT_callo G4_16, ↓exT_calloG G4_16, ↓exT_call G4_17, ↓exT_callo G4_17, ↓exT_calloG G4_17, ↓exT_call G4_18, ↓exT_callo G4_18, ↓exT_calloG G4_18, ↓exT_call G4_19, ↓exT_callo G4_19, ↓exT_calloG G4_19, ↓exT_call G4_20, ↓exT_callo G4_20, ↓exT_calloG G4_20, ↓exT_call G4_21, ↓exT_callo G4_21, ↓exT_calloG G4_21, ↓exT_call G4_22, ↓exT_callo G4_22, ↓exT_calloG G4_22, ↓exT_call G4_23, ↓exT_callo G4_23, ↓exT_calloG G4_23, hfc, hsm, ht', hk', hr, hd, hp, hsy, e2, e3, h7, wr_app, go_sem, Nat.reduceAdd, Nat.reduceSub, Nat.reduceMul, Nat.reduceEqDiff, Nat.reduceLeDiff, Nat.reduceLT, Nat.reduceBEq, Int.reduceLE, Int.reduceLT, Int.reduceToNat, Int.reduceNeg, Int.reduceAdd, Int.reduceSub, Int.reduceMul, ↓reduceIte]
        all_goals (try simp +contextual (maxSteps := 4000000) only [↓exT_call G4_12, ↓exT_callo G4_12, ↓exT_calloG G4_12, ↓exT_call G4_13, ↓exT_callo G4_13, ↓exT_calloG G4_13, ↓exT_call G4_11, ↓exT_callo G4_11, ↓exT_calloG G4_11, ↓exT_call G4_14, ↓exT_callo G4_14, ↓exT_calloG G4_14, ↓exT_call G4_15, ↓exT_callo G4_15, ↓exT_calloG G4_15, ↓exT_call G4_16, ↓exT_callo G4_16, ↓exT_calloG G4_16, ↓exT_call G4_17, ↓exT_callo G4_17, ↓exT_calloG G4_17, ↓exT_call G4_18, ↓exT_callo G4_18, ↓exT_calloG G4_18, ↓exT_call G4_19, ↓exT_callo G4_19, ↓exT_calloG G4_19, ↓exT_call G4_20, ↓exT_callo G4_20, ↓exT_calloG G4_20, ↓exT_call G4_21, ↓exT_callo G4_21, ↓exT_calloG G4_21, ↓exT_call G4_22, ↓exT_callo G4_22, ↓exT_calloG G4_22, ↓exT_call G4_23, ↓exT_callo G4_23, ↓exT_calloG G4_23, hfc, hsm, ht', hk', hr, hd, hp, hsy, e2, e3, h7, wr_app, go_sem, Nat.reduceAdd, Nat.reduceSub, Nat.reduceMul, Nat.reduceEqDiff, Nat.reduceLeDiff, Nat.reduceLT, Nat.reduceBEq, Int.reduceLE, Int.reduceLT, Int.reduceToNat, Int.reduceNeg, Int.reduceAdd, Int.reduceSub, Int.reduceMul, ↓reduceIte])
        all_goals ((repeat' (first | with_reducible apply And.intro | intro)) <;> first | omega | (with_reducible rfl) | skip)

end Go.Proofs.Ytcnemnehjpaggaa
