/- The functions of package word, that read. -/
import Derived.Test.YtkhplfdijadhbaaC1
set_option linter.all false
namespace Go.Proofs.Ytkhplfdijadhbaa
open Go Go.Ab Go.Proofs Go.Fs
theorem idx_hex (c : UInt8) : Lib.indexByte hexB c = hexV c := by
  have := byte_all (p := fun c => decide (Lib.indexByte hexB c = hexV c)) (by decide +kernel) c
  exact of_decide_eq_true this
theorem idx_hex' (c : UInt8) : Lib.indexByte [48, 49, 50, 51, 52, 53, 54, 55, 56, 57, 97, 98, 99, 100, 101, 102] c = hexV c := idx_hex c
theorem hexV_ge (c : UInt8) : -1 ≤ hexV c := by
  have := byte_all (p := fun c => decide (-1 ≤ hexV c)) (by decide +kernel) c
  exact of_decide_eq_true this
theorem byte_t3 (c : UInt8) : (decide (c = 34) || decide (c < 32) || decide (126 < c)) = decide (c = 34 ∨ c < 32 ∨ 126 < c) := by
  by_cases h1 : c = 34 <;> by_cases h2 : c < 32 <;> by_cases h3 : 126 < c <;> simp [h1, h2, h3]
theorem hex_or {a b : Int} (h : 0 ≤ a ∧ 0 ≤ b) (ha : a < 16) (hb : b < 16) : (((a * 16).toNat ||| b.toNat : Nat) : Int) % 256 = 16 * a + b := by
  obtain ⟨n, rfl⟩ : ∃ n : Nat, a = n := ⟨a.toNat, by omega⟩
  obtain ⟨m, rfl⟩ : ∃ m : Nat, b = m := ⟨b.toNat, by omega⟩
  have := (by decide +kernel : ∀ n m : Fin 16, (((n.val : Int) * 16).toNat ||| (m.val : Int).toNat) = 16 * n.val + m.val) ⟨n, by omega⟩ ⟨m, by omega⟩
  simp only at this
  rw [this]; omega
theorem hexV_lt (c : UInt8) : hexV c < 16 := by
  have := byte_all (p := fun c => decide (hexV c < 16)) (by decide +kernel) c
  exact of_decide_eq_true this
def pieceG : List V → Option V
  | [.c (.s (.str t))] => if t ≠ [] ∧ t.length < 9223372036854775807 then some (.tup [.inl (.s (.int .u8 (pieceE t).1)), .inl (.s (.int .i64 (pieceE t).2))]) else none
  | _ => none
theorem pieceG_call {t : Bs} {gt : Bool} {K : V → Prop} : callE pieceG [.c (.s (.str t))] gt K = ((gt = true → t ≠ [] ∧ t.length < 9223372036854775807) ∧ bindV (ifV gt (.tup [.inl (.s (.int .u8 (pieceE t).1)), .inl (.s (.int .i64 (pieceE t).2))])) K) := callE_of rfl
theorem pieceG_callo {t : Bs} {m : Nat → Option Ab.Obj} {locs : List Nat} {K : V → (Nat → Option Ab.Obj) → Prop} : callO pieceG (some [.c (.s (.str t))]) m locs K = ((t ≠ [] ∧ t.length < 9223372036854775807) ∧ K (.tup [.inl (.s (.int .u8 (pieceE t).1)), .inl (.s (.int .i64 (pieceE t).2))]) (sealW m locs (.tup [.inl (.s (.int .u8 (pieceE t).1)), .inl (.s (.int .i64 (pieceE t).2))]))) := callO_of rfl

def sc_word_piece : SC := .seq (
 .reg [
   ⟨some 2, .mv, [.k (.c (.s (.int .u8 0)))], none⟩,
   ⟨some 3, .mv, [.k (.c (.s (.int .i64 0)))], none⟩]) (
 .seq (
  .block 0 (
   .seq (
    .reg [
      ⟨some 7, .mv, [.t 0], none⟩,
      ⟨some 8, .idx, [.t 7, .k (.c (.s (.int .i64 0)))], none⟩,
      ⟨some 9, .bin .eql, [.t 8, .k (.c (.s (.int .u8 34)))], none⟩,
      ⟨some 10, .mv, [.t 9], none⟩,
      ⟨some 11, .mv, [.t 0], some (10, false)⟩,
      ⟨some 12, .idx, [.t 11, .k (.c (.s (.int .i64 0)))], some (10, false)⟩,
      ⟨some 13, .bin .lss, [.t 12, .k (.c (.s (.int .u8 32)))], some (10, false)⟩,
      ⟨some 14, .pick, [.t 10, .k (.c (.s (.bool true))), .t 13], none⟩,
      ⟨some 15, .mv, [.t 14], none⟩,
      ⟨some 16, .mv, [.t 0], some (15, false)⟩,
      ⟨some 17, .idx, [.t 16, .k (.c (.s (.int .i64 0)))], some (15, false)⟩,
      ⟨some 18, .bin .gtr, [.t 17, .k (.c (.s (.int .u8 126)))], some (15, false)⟩,
      ⟨some 19, .pick, [.t 15, .k (.c (.s (.bool true))), .t 18], none⟩,
      ⟨some 6, .mv, [.t 19], none⟩]) (
    .cond (.t 6) (
     .seq (
      .reg [
        ⟨some 2, .mv, [.k (.c (.s (.int .u8 0)))], none⟩,
        ⟨some 3, .mv, [.k (.c (.s (.int .i64 0)))], none⟩]) (
      .ret)) (
     .seq (
      .reg [
        ⟨some 21, .mv, [.t 0], none⟩,
        ⟨some 22, .idx, [.t 21, .k (.c (.s (.int .i64 0)))], none⟩,
        ⟨some 23, .bin .neq, [.t 22, .k (.c (.s (.int .u8 92)))], none⟩,
        ⟨some 20, .mv, [.t 23], none⟩]) (
      .cond (.t 20) (
       .seq (
        .reg [
          ⟨some 24, .mv, [.t 0], none⟩,
          ⟨some 25, .idx, [.t 24, .k (.c (.s (.int .i64 0)))], none⟩,
          ⟨some 2, .mv, [.t 25], none⟩,
          ⟨some 3, .mv, [.k (.c (.s (.int .i64 1)))], none⟩]) (
        .ret)) (
       .seq (
        .reg [
          ⟨some 27, .mv, [.t 0], none⟩,
          ⟨some 28, .len true, [.t 27], none⟩,
          ⟨some 29, .bin .lss, [.t 28, .k (.c (.s (.int .i64 2)))], none⟩,
          ⟨some 26, .mv, [.t 29], none⟩]) (
        .cond (.t 26) (
         .seq (
          .reg [
            ⟨some 2, .mv, [.k (.c (.s (.int .u8 0)))], none⟩,
            ⟨some 3, .mv, [.k (.c (.s (.int .i64 0)))], none⟩]) (
          .ret)) (
         .seq (
          .reg [
            ⟨some 31, .mv, [.t 0], none⟩,
            ⟨some 32, .idx, [.t 31, .k (.c (.s (.int .i64 1)))], none⟩,
            ⟨some 33, .bin .eql, [.t 32, .k (.c (.s (.int .u8 34)))], none⟩,
            ⟨some 34, .mv, [.t 33], none⟩,
            ⟨some 35, .mv, [.t 0], some (34, false)⟩,
            ⟨some 36, .idx, [.t 35, .k (.c (.s (.int .i64 1)))], some (34, false)⟩,
            ⟨some 37, .bin .eql, [.t 36, .k (.c (.s (.int .u8 92)))], some (34, false)⟩,
            ⟨some 38, .pick, [.t 34, .k (.c (.s (.bool true))), .t 37], none⟩,
            ⟨some 30, .mv, [.t 38], none⟩]) (
          .cond (.t 30) (
           .seq (
            .reg [
              ⟨some 39, .mv, [.t 0], none⟩,
              ⟨some 40, .idx, [.t 39, .k (.c (.s (.int .i64 1)))], none⟩,
              ⟨some 2, .mv, [.t 40], none⟩,
              ⟨some 3, .mv, [.k (.c (.s (.int .i64 2)))], none⟩]) (
            .ret)) (
           .seq (
            .reg [
              ⟨some 42, .mv, [.t 0], none⟩,
              ⟨some 43, .idx, [.t 42, .k (.c (.s (.int .i64 1)))], none⟩,
              ⟨some 44, .bin .neq, [.t 43, .k (.c (.s (.int .u8 120)))], none⟩,
              ⟨some 45, .mv, [.t 44], none⟩,
              ⟨some 46, .mv, [.t 0], some (45, false)⟩,
              ⟨some 47, .len true, [.t 46], some (45, false)⟩,
              ⟨some 48, .bin .lss, [.t 47, .k (.c (.s (.int .i64 4)))], some (45, false)⟩,
              ⟨some 49, .pick, [.t 45, .k (.c (.s (.bool true))), .t 48], none⟩,
              ⟨some 41, .mv, [.t 49], none⟩]) (
            .cond (.t 41) (
             .seq (
              .reg [
                ⟨some 2, .mv, [.k (.c (.s (.int .u8 0)))], none⟩,
                ⟨some 3, .mv, [.k (.c (.s (.int .i64 0)))], none⟩]) (
              .ret)) (
             .skip)))))))))))) (
  .seq (
   .regD [
     ⟨some 50, .mv, [.t 0], none⟩,
     ⟨some 51, .idx, [.t 50, .k (.c (.s (.int .i64 2)))], none⟩,
     ⟨some 52, .call 33, [.k (.c (.s (.str [48, 49, 50, 51, 52, 53, 54, 55, 56, 57, 97, 98, 99, 100, 101, 102]))), .t 51], none⟩,
     ⟨some 53, .mv, [.t 0], none⟩,
     ⟨some 54, .idx, [.t 53, .k (.c (.s (.int .i64 3)))], none⟩,
     ⟨some 55, .call 33, [.k (.c (.s (.str [48, 49, 50, 51, 52, 53, 54, 55, 56, 57, 97, 98, 99, 100, 101, 102]))), .t 54], none⟩,
     ⟨some 4, .mv, [.t 52], none⟩,
     ⟨some 5, .mv, [.t 55], none⟩] []) (
   .seq (
    .seq (
     .reg [
       ⟨some 56, .mv, [.t 4], none⟩,
       ⟨some 57, .bin .lss, [.t 56, .k (.c (.s (.int .i64 0)))], none⟩,
       ⟨some 58, .mv, [.t 57], none⟩,
       ⟨some 59, .mv, [.t 5], some (58, false)⟩,
       ⟨some 60, .bin .lss, [.t 59, .k (.c (.s (.int .i64 0)))], some (58, false)⟩,
       ⟨some 61, .pick, [.t 58, .k (.c (.s (.bool true))), .t 60], none⟩]) (
     .cond (.t 61) (
      .seq (
       .reg [
         ⟨some 2, .mv, [.k (.c (.s (.int .u8 0)))], none⟩,
         ⟨some 3, .mv, [.k (.c (.s (.int .i64 0)))], none⟩]) (
       .ret)) (
      .skip))) (
    .seq (
     .reg [
       ⟨some 62, .mv, [.t 4], none⟩,
       ⟨some 63, .bin .shl, [.t 62, .k (.c (.s (.int .u64 4)))], none⟩,
       ⟨some 64, .mv, [.t 5], none⟩,
       ⟨some 65, .bin .or, [.t 63, .t 64], none⟩,
       ⟨some 66, .conv .u8, [.t 65], none⟩,
       ⟨some 2, .mv, [.t 66], none⟩,
       ⟨some 3, .mv, [.k (.c (.s (.int .i64 4)))], none⟩]) (
     .ret)))))
noncomputable def G_word_piece : FuncId → Ab.Spec := addS (noS) 33 (plain idx2G)
theorem G_word_piece_ok : ∀ f, Contract Try.prog f (G_word_piece f) := (addS_ok (noS_ok _) contract_strings_IndexByte)
theorem G_word_piece_33 : G_word_piece 33 = plain idx2G := by simp [G_word_piece, addS]
set_option maxHeartbeats 4000000 in
set_option maxRecDepth 100000 in
set_option linter.unusedSimpArgs false in
set_option linter.unusedVariables false in
theorem contract_word_piece : Contract Try.prog 31 (plain pieceG) := by
  have hb : ∃ c, Try.f31.body = some c ∧ codeOk 67 c = true ∧ cCode Try.prog c = sc_word_piece := ⟨_, rfl, by kernel_rfl, by kernel_rfl⟩
  obtain ⟨c, hb1, hb2, hb3⟩ := hb
  refine contract_of (n := 1) G_word_piece_ok hB hD Try.func31 hb1 (by kernel_rfl) hb2 hb3 (rs := [.tmp 2, .tmp 3]) (by kernel_rfl) (by decide) ?_ ?_
  · intro args x h
    unfold plain pieceG at h
    split at h <;> simp_all
  · intro args r hr
    unfold plain pieceG at hr
    split at hr
    case h_2 => cases hr
    rename_i t
    split at hr
    case isFalse => cases hr
    rename_i hc
    simp only [Option.map_some, Option.some.injEq] at hr
    subst hr
    unfold sc_word_piece
    obtain ⟨h0, hlen⟩ := hc
    match t, h0 with
    | c :: r, _ =>
      simp only [List.length_cons] at hlen
      by_cases h1 : c = 34 ∨ c < 32 ∨ 126 < c
      · have e : (decide (c = 34) || decide (c < 32) || decide (126 < c)) = true := by rw [byte_t3]; exact decide_eq_true h1
        have hp : pieceE (c :: r) = (0, 0) := by simp only [pieceE, if_pos h1]
        simp +contextual (maxSteps := 4000000) only [↓exT_call G_word_piece_33, ↓exT_callo G_word_piece_33, idx2G_call, idx2G_callo, e, hp, go_sem, Nat.reduceAdd, Nat.reduceSub, Nat.reduceMul, Nat.reduceEqDiff, Nat.reduceLeDiff, Nat.reduceLT, Nat.reduceBEq, Int.reduceLE, Int.reduceLT, Int.reduceToNat, Int.reduceNeg, Int.reduceAdd, Int.reduceSub, Int.reduceMul, ↓reduceIte]
        simp <;> omega
      · have e : (decide (c = 34) || decide (c < 32) || decide (126 < c)) = false := by rw [byte_t3]; exact decide_eq_false h1
        have e0 : ¬ c = 34 ∧ ¬ c < 32 ∧ ¬ 126 < c := ⟨fun h => h1 (.inl h), fun h => h1 (.inr (.inl h)), fun h => h1 (.inr (.inr h))⟩
        by_cases h2 : c = 92
        · subst h2
          match r with
          | [] =>
            have hp : pieceE [92] = (0, 0) := by simp only [pieceE, if_neg h1, ne_eq, not_true_eq_false, if_false]
            simp +contextual (maxSteps := 4000000) only [↓exT_call G_word_piece_33, ↓exT_callo G_word_piece_33, idx2G_call, idx2G_callo, e, e0.1, e0.2.1, e0.2.2, hp, go_sem, Nat.reduceAdd, Nat.reduceSub, Nat.reduceMul, Nat.reduceEqDiff, Nat.reduceLeDiff, Nat.reduceLT, Nat.reduceBEq, Int.reduceLE, Int.reduceLT, Int.reduceToNat, Int.reduceNeg, Int.reduceAdd, Int.reduceSub, Int.reduceMul, ↓reduceIte]
            simp
          | d :: r =>
            by_cases h3 : d = 34 ∨ d = 92
            · have hp : pieceE (92 :: d :: r) = ((d.toNat : Int), 2) := by simp only [pieceE, if_neg h1, ne_eq, not_true_eq_false, if_false, if_pos h3]
              have e3 : (decide (d = 34) || decide (d = 92)) = true := by simpa using h3
              simp +contextual (maxSteps := 4000000) only [↓exT_call G_word_piece_33, ↓exT_callo G_word_piece_33, idx2G_call, idx2G_callo, e, e0.1, e0.2.1, e0.2.2, hp, e3, go_sem, Nat.reduceAdd, Nat.reduceSub, Nat.reduceMul, Nat.reduceEqDiff, Nat.reduceLeDiff, Nat.reduceLT, Nat.reduceBEq, Int.reduceLE, Int.reduceLT, Int.reduceToNat, Int.reduceNeg, Int.reduceAdd, Int.reduceSub, Int.reduceMul, ↓reduceIte]
              simp <;> omega
            · have hn : ¬ d = 34 ∧ ¬ d = 92 := ⟨fun h => h3 (.inl h), fun h => h3 (.inr h)⟩
              match r with
              | [] =>
                have hp : pieceE [92, d] = (0, 0) := by simp only [pieceE, if_neg h1, ne_eq, not_true_eq_false, if_false, if_neg h3]
                simp +contextual (maxSteps := 4000000) only [↓exT_call G_word_piece_33, ↓exT_callo G_word_piece_33, idx2G_call, idx2G_callo, e, e0.1, e0.2.1, e0.2.2, hp, hn.1, hn.2, go_sem, Nat.reduceAdd, Nat.reduceSub, Nat.reduceMul, Nat.reduceEqDiff, Nat.reduceLeDiff, Nat.reduceLT, Nat.reduceBEq, Int.reduceLE, Int.reduceLT, Int.reduceToNat, Int.reduceNeg, Int.reduceAdd, Int.reduceSub, Int.reduceMul, ↓reduceIte]
                simp
              | [a] =>
                have hp : pieceE [92, d, a] = (0, 0) := by simp only [pieceE, if_neg h1, ne_eq, not_true_eq_false, if_false, if_neg h3]
                simp +contextual (maxSteps := 4000000) only [↓exT_call G_word_piece_33, ↓exT_callo G_word_piece_33, idx2G_call, idx2G_callo, e, e0.1, e0.2.1, e0.2.2, hp, hn.1, hn.2, go_sem, Nat.reduceAdd, Nat.reduceSub, Nat.reduceMul, Nat.reduceEqDiff, Nat.reduceLeDiff, Nat.reduceLT, Nat.reduceBEq, Int.reduceLE, Int.reduceLT, Int.reduceToNat, Int.reduceNeg, Int.reduceAdd, Int.reduceSub, Int.reduceMul, ↓reduceIte]
                simp
              | a :: b :: r =>
                have hp : pieceE (92 :: d :: a :: b :: r) = if d = 120 ∧ 0 ≤ hexV a ∧ 0 ≤ hexV b then (16 * hexV a + hexV b, 4) else (0, 0) := by simp only [pieceE, if_neg h1, ne_eq, not_true_eq_false, if_false, if_neg h3]
                have hla := hexV_lt a
                have hlb := hexV_lt b
                have hga := hexV_ge a
                have hgb := hexV_ge b
                by_cases h4 : d = 120
                · by_cases h5 : 0 ≤ hexV a ∧ 0 ≤ hexV b
                  · rw [if_pos ⟨h4, h5⟩] at hp
                    subst h4
                    have hor := hex_or h5 hla hlb
                    simp +contextual (maxSteps := 4000000) only [↓exT_call G_word_piece_33, ↓exT_callo G_word_piece_33, idx2G_call, idx2G_callo, e, e0.1, e0.2.1, e0.2.2, hp, hn.1, hn.2, idx_hex', go_sem, Nat.reduceAdd, Nat.reduceSub, Nat.reduceMul, Nat.reduceEqDiff, Nat.reduceLeDiff, Nat.reduceLT, Nat.reduceBEq, Int.reduceLE, Int.reduceLT, Int.reduceToNat, Int.reduceNeg, Int.reduceAdd, Int.reduceSub, Int.reduceMul, ↓reduceIte]
                    simp [hor] <;> omega
                  · rw [if_neg (fun x => h5 x.2)] at hp
                    subst h4
                    simp +contextual (maxSteps := 4000000) only [↓exT_call G_word_piece_33, ↓exT_callo G_word_piece_33, idx2G_call, idx2G_callo, e, e0.1, e0.2.1, e0.2.2, hp, hn.1, hn.2, idx_hex', go_sem, Nat.reduceAdd, Nat.reduceSub, Nat.reduceMul, Nat.reduceEqDiff, Nat.reduceLeDiff, Nat.reduceLT, Nat.reduceBEq, Int.reduceLE, Int.reduceLT, Int.reduceToNat, Int.reduceNeg, Int.reduceAdd, Int.reduceSub, Int.reduceMul, ↓reduceIte]
                    simp <;> omega
                · rw [if_neg (fun x => h4 x.1)] at hp
                  simp +contextual (maxSteps := 4000000) only [↓exT_call G_word_piece_33, ↓exT_callo G_word_piece_33, idx2G_call, idx2G_callo, e, e0.1, e0.2.1, e0.2.2, hp, hn.1, hn.2, h4, go_sem, Nat.reduceAdd, Nat.reduceSub, Nat.reduceMul, Nat.reduceEqDiff, Nat.reduceLeDiff, Nat.reduceLT, Nat.reduceBEq, Int.reduceLE, Int.reduceLT, Int.reduceToNat, Int.reduceNeg, Int.reduceAdd, Int.reduceSub, Int.reduceMul, ↓reduceIte]
                  simp <;> omega
        · have hp : pieceE (c :: r) = ((c.toNat : Int), 1) := by simp only [pieceE, if_neg h1, if_pos h2]
          simp +contextual (maxSteps := 4000000) only [↓exT_call G_word_piece_33, ↓exT_callo G_word_piece_33, idx2G_call, idx2G_callo, e, e0.1, e0.2.1, e0.2.2, hp, h2, go_sem, Nat.reduceAdd, Nat.reduceSub, Nat.reduceMul, Nat.reduceEqDiff, Nat.reduceLeDiff, Nat.reduceLT, Nat.reduceBEq, Int.reduceLE, Int.reduceLT, Int.reduceToNat, Int.reduceNeg, Int.reduceAdd, Int.reduceSub, Int.reduceMul, ↓reduceIte]
          simp <;> omega

def scanG : List V → Option V
  | [.c (.s (.str t)), .c (.s (.int .i64 a))] => if t.length < 9223372036854775806 then some (.tup [.inl (.s (.int .i64 (scanC t a).1)), .inl (.s (.bool (scanC t a).2))]) else none
  | _ => none
theorem scanG_call {t : Bs} {a : Int} {gt : Bool} {K : V → Prop} : callE scanG [.c (.s (.str t)), .c (.s (.int .i64 a))] gt K = ((gt = true → t.length < 9223372036854775806) ∧ bindV (ifV gt (.tup [.inl (.s (.int .i64 (scanC t a).1)), .inl (.s (.bool (scanC t a).2))])) K) := callE_of rfl
theorem scanG_callo {t : Bs} {a : Int} {m : Nat → Option Ab.Obj} {locs : List Nat} {K : V → (Nat → Option Ab.Obj) → Prop} : callO scanG (some [.c (.s (.str t)), .c (.s (.int .i64 a))]) m locs K = ((t.length < 9223372036854775806) ∧ K (.tup [.inl (.s (.int .i64 (scanC t a).1)), .inl (.s (.bool (scanC t a).2))]) (sealW m locs (.tup [.inl (.s (.int .i64 (scanC t a).1)), .inl (.s (.bool (scanC t a).2))]))) := callO_of rfl

theorem scanC_at {t : Bs} {n : Nat} (h : n < t.length) : scanC t n = if t.getD n 0 = 34 then (match scanQ (t.drop (n + 1)) with
    | some k => (((n + 1 + k : Nat) : Int), true)
    | none => (0, false)) else if bareN (t.drop n) = 0 then (0, false) else (((n + bareN (t.drop n) : Nat) : Int), true) := by
  unfold scanC
  rw [if_pos (by omega), Int.toNat_natCast]
  have e : t.drop n = t.getD n 0 :: t.drop (n + 1) := by rw [List.drop_eq_getElem_cons h]; simp [h]
  generalize hc : t.getD n 0 = c at e
  generalize t.drop (n + 1) = r at *
  rw [e]
  simp only [scanE]
  by_cases h34 : c = 34
  · rw [if_pos h34, if_pos h34]
    cases scanQ r with
    | none => rfl
    | some k => simp only [Option.map_some, Prod.mk.injEq, and_true]; omega
  · rw [if_neg h34, if_neg h34]
    by_cases hb : bareN (c :: r) = 0
    · rw [if_pos hb, if_pos hb]
    · rw [if_neg hb, if_neg hb]; simp
def sc_word_Scan : SC := .seq (
 .reg [
   ⟨some 4, .mv, [.k (.c (.s (.int .i64 0)))], none⟩,
   ⟨some 5, .mv, [.k (.c (.s (.bool false)))], none⟩]) (
 .seq (
  .seq (
   .reg [
     ⟨some 8, .mv, [.t 1], none⟩,
     ⟨some 9, .bin .lss, [.t 8, .k (.c (.s (.int .i64 0)))], none⟩,
     ⟨some 10, .mv, [.t 9], none⟩,
     ⟨some 11, .mv, [.t 1], some (10, false)⟩,
     ⟨some 12, .mv, [.t 0], some (10, false)⟩,
     ⟨some 13, .len true, [.t 12], some (10, false)⟩,
     ⟨some 14, .bin .geq, [.t 11, .t 13], some (10, false)⟩,
     ⟨some 15, .pick, [.t 10, .k (.c (.s (.bool true))), .t 14], none⟩]) (
   .cond (.t 15) (
    .seq (
     .reg [
       ⟨some 4, .mv, [.k (.c (.s (.int .i64 0)))], none⟩,
       ⟨some 5, .mv, [.k (.c (.s (.bool false)))], none⟩]) (
     .ret)) (
    .skip))) (
  .seq (
   .seq (
    .reg [
      ⟨some 16, .mv, [.t 0], none⟩,
      ⟨some 17, .mv, [.t 1], none⟩,
      ⟨some 18, .idx, [.t 16, .t 17], none⟩,
      ⟨some 19, .bin .neq, [.t 18, .k (.c (.s (.int .u8 34)))], none⟩]) (
    .cond (.t 19) (
     .seq (
      .reg [
        ⟨some 20, .mv, [.t 0], none⟩,
        ⟨some 21, .mv, [.t 1], none⟩,
        ⟨some 22, .slcS true false, [.t 20, .t 21], none⟩,
        ⟨some 23, .call 22, [.t 22], none⟩,
        ⟨some 6, .mv, [.t 23], none⟩]) (
      .seq (
       .seq (
        .reg [
          ⟨some 24, .mv, [.t 6], none⟩,
          ⟨some 25, .bin .eql, [.t 24, .k (.c (.s (.int .i64 0)))], none⟩]) (
        .cond (.t 25) (
         .seq (
          .reg [
            ⟨some 4, .mv, [.k (.c (.s (.int .i64 0)))], none⟩,
            ⟨some 5, .mv, [.k (.c (.s (.bool false)))], none⟩]) (
          .ret)) (
         .skip))) (
       .seq (
        .reg [
          ⟨some 26, .mv, [.t 1], none⟩,
          ⟨some 27, .mv, [.t 6], none⟩,
          ⟨some 28, .bin .add, [.t 26, .t 27], none⟩,
          ⟨some 4, .mv, [.t 28], none⟩,
          ⟨some 5, .mv, [.k (.c (.s (.bool true)))], none⟩]) (
        .ret)))) (
     .skip))) (
   .seq (
    .seq (
     .reg [
       ⟨some 29, .mv, [.t 1], none⟩,
       ⟨some 30, .bin .add, [.t 29, .k (.c (.s (.int .i64 1)))], none⟩,
       ⟨some 7, .mv, [.t 30], none⟩]) (
     .block 0 (
      .loop (
       .seq (
        .seq (
         .reg [
           ⟨some 31, .mv, [.t 7], none⟩,
           ⟨some 32, .mv, [.t 0], none⟩,
           ⟨some 33, .len true, [.t 32], none⟩,
           ⟨some 34, .bin .lss, [.t 31, .t 33], none⟩]) (
         .cond (.t 34) (
          .skip) (
          .exit 0))) (
        .seq (
         .block 1 (
          .seq (
           .reg [
             ⟨some 37, .mv, [.t 0], none⟩,
             ⟨some 38, .mv, [.t 7], none⟩,
             ⟨some 39, .idx, [.t 37, .t 38], none⟩]) (
           .block 2 (
            .seq (
             .reg [
               ⟨some 41, .bin .eql, [.t 39, .k (.c (.s (.int .u8 92)))], none⟩,
               ⟨some 40, .mv, [.t 41], none⟩]) (
             .cond (.t 40) (
              .reg [
                ⟨some 42, .mv, [.t 7], none⟩,
                ⟨some 43, .bin .add, [.t 42, .k (.c (.s (.int .i64 1)))], none⟩,
                ⟨some 7, .mv, [.t 43], none⟩]) (
              .seq (
               .reg [
                 ⟨some 45, .bin .eql, [.t 39, .k (.c (.s (.int .u8 34)))], none⟩,
                 ⟨some 44, .mv, [.t 45], none⟩]) (
               .cond (.t 44) (
                .seq (
                 .reg [
                   ⟨some 46, .mv, [.t 7], none⟩,
                   ⟨some 47, .bin .add, [.t 46, .k (.c (.s (.int .i64 1)))], none⟩,
                   ⟨some 4, .mv, [.t 47], none⟩,
                   ⟨some 5, .mv, [.k (.c (.s (.bool true)))], none⟩]) (
                 .ret)) (
                .skip)))))))) (
         .reg [
           ⟨some 35, .mv, [.t 7], none⟩,
           ⟨some 36, .bin .add, [.t 35, .k (.c (.s (.int .i64 1)))], none⟩,
           ⟨some 7, .mv, [.t 36], none⟩])))))) (
    .seq (
     .reg [
       ⟨some 4, .mv, [.k (.c (.s (.int .i64 0)))], none⟩,
       ⟨some 5, .mv, [.k (.c (.s (.bool false)))], none⟩]) (
     .ret)))))
noncomputable def G_word_Scan : FuncId → Ab.Spec := addS (noS) 22 (plain runG)
theorem G_word_Scan_ok : ∀ f, Contract Try.prog f (G_word_Scan f) := (addS_ok (noS_ok _) contract_word_run)
theorem G_word_Scan_22 : G_word_Scan 22 = plain runG := by simp [G_word_Scan, addS]
set_option maxHeartbeats 4000000 in
set_option maxRecDepth 100000 in
set_option linter.unusedSimpArgs false in
set_option linter.unusedVariables false in
theorem contract_word_Scan : Contract Try.prog 14 (plain scanG) := by
  have hb : ∃ c, Try.f14.body = some c ∧ codeOk 48 c = true ∧ cCode Try.prog c = sc_word_Scan := ⟨_, rfl, by kernel_rfl, by kernel_rfl⟩
  obtain ⟨c, hb1, hb2, hb3⟩ := hb
  refine contract_of (n := 2) G_word_Scan_ok hB hD Try.func14 hb1 (by kernel_rfl) hb2 hb3 (rs := [.tmp 4, .tmp 5]) (by kernel_rfl) (by decide) ?_ ?_
  · intro args x h
    unfold plain scanG at h
    split at h <;> simp_all
  · intro args r hr
    unfold plain scanG at hr
    split at hr
    case h_2 => cases hr
    rename_i t a
    split at hr
    case isFalse => cases hr
    rename_i hc
    simp only [Option.map_some, Option.some.injEq] at hr
    subst hr
    unfold sc_word_Scan
    by_cases ha : 0 ≤ a ∧ a < (t.length : Int)
    case neg =>
      have e : (decide (a < 0) || decide ((t.length : Int) ≤ a)) = true := by simp; omega
      have hs : scanC t a = (0, false) := by unfold scanC; rw [if_neg ha]
      simp +contextual (maxSteps := 4000000) only [↓exT_call G_word_Scan_22, ↓exT_callo G_word_Scan_22, runG_call, runG_callo, e, hs, ha, go_sem, Nat.reduceAdd, Nat.reduceSub, Nat.reduceMul, Nat.reduceEqDiff, Nat.reduceLeDiff, Nat.reduceLT, Nat.reduceBEq, Int.reduceLE, Int.reduceLT, Int.reduceToNat, Int.reduceNeg, Int.reduceAdd, Int.reduceSub, Int.reduceMul, ↓reduceIte]
    obtain ⟨n, rfl⟩ : ∃ n : Nat, a = n := ⟨a.toNat, by omega⟩
    have hn : n < t.length := by omega
    have e : (decide ((n : Int) < 0) || decide ((t.length : Int) ≤ n)) = false := by simp; omega
    have hs := scanC_at hn
    have hr := run_le (t.drop n)
    simp only [List.length_drop] at hr
    by_cases h34 : t.getD n 0 = 34
    case neg =>
      rw [if_neg h34] at hs
      by_cases h0 : bareN (t.drop n) = 0
      · rw [if_pos h0] at hs
        simp +contextual (maxSteps := 4000000) only [↓exT_call G_word_Scan_22, ↓exT_callo G_word_Scan_22, runG_call, runG_callo, e, h34, hs, h0, go_sem, Nat.reduceAdd, Nat.reduceSub, Nat.reduceMul, Nat.reduceEqDiff, Nat.reduceLeDiff, Nat.reduceLT, Nat.reduceBEq, Int.reduceLE, Int.reduceLT, Int.reduceToNat, Int.reduceNeg, Int.reduceAdd, Int.reduceSub, Int.reduceMul, ↓reduceIte]
        simp; omega
      · rw [if_neg h0] at hs
        have h0' : ¬ ((bareN (t.drop n) : Nat) : Int) = 0 := by omega
        simp +contextual (maxSteps := 4000000) only [↓exT_call G_word_Scan_22, ↓exT_callo G_word_Scan_22, runG_call, runG_callo, e, h34, hs, h0', go_sem, Nat.reduceAdd, Nat.reduceSub, Nat.reduceMul, Nat.reduceEqDiff, Nat.reduceLeDiff, Nat.reduceLT, Nat.reduceBEq, Int.reduceLE, Int.reduceLT, Int.reduceToNat, Int.reduceNeg, Int.reduceAdd, Int.reduceSub, Int.reduceMul, ↓reduceIte]
        simp; omega
    rw [if_pos h34] at hs
    simp +contextual (maxSteps := 4000000) only [↓exT_call G_word_Scan_22, ↓exT_callo G_word_Scan_22, runG_call, runG_callo, e, h34, go_sem, Nat.reduceAdd, Nat.reduceSub, Nat.reduceMul, Nat.reduceEqDiff, Nat.reduceLeDiff, Nat.reduceLT, Nat.reduceBEq, Int.reduceLE, Int.reduceLT, Int.reduceToNat, Int.reduceNeg, Int.reduceAdd, Int.reduceSub, Int.reduceMul, ↓reduceIte]
    all_goals ((repeat' (first | with_reducible apply And.intro | intro)) <;> try omega)
    refine awp_loopM (α := Nat) (fun i => [(0, .c (.s (.str t))), (7, .c (.s (.int .i64 i)))]) (fun _ => []) (fun i => t.length + 2 - i) (n + 1) (fun i => i ≤ t.length + 1 ∧ (scanQ (t.drop (n + 1))).map (n + 1 + ·) = (scanQ (t.drop i)).map (i + ·)) ⟨by omega, rfl⟩ (Weak.meets ?_) ?_
    · simp +contextual (maxSteps := 4000000) only [↓exT_call G_word_Scan_22, ↓exT_callo G_word_Scan_22, runG_call, runG_callo, go_sem, Nat.reduceAdd, Nat.reduceSub, Nat.reduceMul, Nat.reduceEqDiff, Nat.reduceLeDiff, Nat.reduceLT, Nat.reduceBEq, Int.reduceLE, Int.reduceLT, Int.reduceToNat, Int.reduceNeg, Int.reduceAdd, Int.reduceSub, Int.reduceMul, ↓reduceIte]
      simp
    intro x hx
    obtain ⟨hx1, hx2⟩ := hx
    have hfin : scanC t n = (match (scanQ (t.drop x)).map (x + ·) with
      | some k => ((k : Int), true)
      | none => (0, false)) := by
      rw [hs, ← hx2]
      cases scanQ (t.drop (n + 1)) <;> rfl
    by_cases hxl : x < t.length
    · have ed : t.drop x = t.getD x 0 :: t.drop (x + 1) := by rw [List.drop_eq_getElem_cons hxl]; simp [hxl]
      have hxi : (x : Int) < (t.length : Int) := by omega
      by_cases h92 : t.getD x 0 = 92
      · simp +contextual (maxSteps := 4000000) only [↓exT_call G_word_Scan_22, ↓exT_callo G_word_Scan_22, runG_call, runG_callo, hxi, h92, go_sem, Nat.reduceAdd, Nat.reduceSub, Nat.reduceMul, Nat.reduceEqDiff, Nat.reduceLeDiff, Nat.reduceLT, Nat.reduceBEq, Int.reduceLE, Int.reduceLT, Int.reduceToNat, Int.reduceNeg, Int.reduceAdd, Int.reduceSub, Int.reduceMul, ↓reduceIte]
        refine ⟨by omega, by omega, x + 2, ⟨by omega, ?_⟩, by omega, by omega⟩
        rw [hx2, ed, h92]
        by_cases hl2 : x + 1 < t.length
        · have ed2 : t.drop (x + 1) = t.getD (x + 1) 0 :: t.drop (x + 2) := by rw [List.drop_eq_getElem_cons hl2]; simp [hl2]
          rw [ed2, scanQ_back]
          cases scanQ (t.drop (x + 2)) with
          | none => rfl
          | some k => simp; omega
        · have e3 : t.drop (x + 1) = [] := List.drop_eq_nil_of_le (by omega)
          have e4 : t.drop (x + 2) = [] := List.drop_eq_nil_of_le (by omega)
          rw [e3, e4, scanQ_back1, scanQ_nil]
          rfl
      · by_cases h34' : t.getD x 0 = 34
        · have : scanQ (t.drop x) = some 1 := by rw [ed, scanQ_cons _ _ h92, if_pos h34']
          rw [this] at hfin
          simp only [Option.map_some] at hfin
          simp +contextual (maxSteps := 4000000) only [↓exT_call G_word_Scan_22, ↓exT_callo G_word_Scan_22, runG_call, runG_callo, hxi, h92, h34', hfin, go_sem, Nat.reduceAdd, Nat.reduceSub, Nat.reduceMul, Nat.reduceEqDiff, Nat.reduceLeDiff, Nat.reduceLT, Nat.reduceBEq, Int.reduceLE, Int.reduceLT, Int.reduceToNat, Int.reduceNeg, Int.reduceAdd, Int.reduceSub, Int.reduceMul, ↓reduceIte]
          simp; omega
        · simp +contextual (maxSteps := 4000000) only [↓exT_call G_word_Scan_22, ↓exT_callo G_word_Scan_22, runG_call, runG_callo, hxi, h92, h34', go_sem, Nat.reduceAdd, Nat.reduceSub, Nat.reduceMul, Nat.reduceEqDiff, Nat.reduceLeDiff, Nat.reduceLT, Nat.reduceBEq, Int.reduceLE, Int.reduceLT, Int.reduceToNat, Int.reduceNeg, Int.reduceAdd, Int.reduceSub, Int.reduceMul, ↓reduceIte]
          refine ⟨by omega, x + 1, ⟨by omega, ?_⟩, by omega, by omega⟩
          rw [hx2, ed, scanQ_cons _ _ h92, if_neg h34']
          cases scanQ (t.drop (x + 1)) with
          | none => rfl
          | some k => simp; omega
    · have e3 : t.drop x = [] := List.drop_eq_nil_of_le (by omega)
      rw [e3, scanQ_nil] at hfin
      have hxi : ¬ (x : Int) < (t.length : Int) := by omega
      simp +contextual (maxSteps := 4000000) only [↓exT_call G_word_Scan_22, ↓exT_callo G_word_Scan_22, runG_call, runG_callo, hxi, hfin, go_sem, Nat.reduceAdd, Nat.reduceSub, Nat.reduceMul, Nat.reduceEqDiff, Nat.reduceLeDiff, Nat.reduceLT, Nat.reduceBEq, Int.reduceLE, Int.reduceLT, Int.reduceToNat, Int.reduceNeg, Int.reduceAdd, Int.reduceSub, Int.reduceMul, ↓reduceIte]

theorem piece_inner {t : Bs} (h : t ≠ []) : (pieceE t = (0, 0) ∧ innerE t = none) ∨ ∃ (c : UInt8) (n : Nat), pieceE t = ((c.toNat : Int), (n : Int)) ∧ 1 ≤ n ∧ n ≤ t.length ∧ innerE t = (innerE (t.drop n)).map (c :: ·) := by
  match t, h with
  | c :: r, _ =>
    by_cases h1 : c = 34 ∨ c < 32 ∨ 126 < c
    · exact .inl ⟨by simp only [pieceE, if_pos h1], inner_bad c r h1⟩
    · by_cases h2 : c = 92
      · subst h2
        match r with
        | [] => exact .inl ⟨by simp only [pieceE, if_neg h1, ne_eq, not_true_eq_false, if_false], inner_92⟩
        | d :: r =>
          by_cases h3 : d = 34 ∨ d = 92
          · exact .inr ⟨d, 2, by simp only [pieceE, if_neg h1, ne_eq, not_true_eq_false, if_false, if_pos h3]; rfl, by omega, by simp, inner_two d r h3⟩
          · match r with
            | [] => exact .inl ⟨by simp only [pieceE, if_neg h1, ne_eq, not_true_eq_false, if_false, if_neg h3], inner_short2 d h3⟩
            | [a] => exact .inl ⟨by simp only [pieceE, if_neg h1, ne_eq, not_true_eq_false, if_false, if_neg h3], inner_short3 d a h3⟩
            | a :: b :: r =>
              by_cases h4 : d = 120 ∧ 0 ≤ hexV a ∧ 0 ≤ hexV b
              · refine .inr ⟨UInt8.ofNat (16 * hexV a + hexV b).toNat, 4, ?_, by omega, by simp, ?_⟩
                · have hla := hexV_lt a
                  have hlb := hexV_lt b
                  simp only [pieceE, if_neg h1, ne_eq, not_true_eq_false, if_false, if_neg h3, if_pos h4]
                  rw [UInt8.toNat_ofNat', Nat.mod_eq_of_lt (by omega)]
                  simp only [Prod.mk.injEq]
                  exact ⟨by omega, rfl⟩
                · refine (inner_hex d a b r h3).trans ?_
                  rw [if_pos h4]; rfl
              · exact .inl ⟨by simp only [pieceE, if_neg h1, ne_eq, not_true_eq_false, if_false, if_neg h3, if_neg h4], by rw [inner_hex d a b r h3, if_neg h4]⟩
      · exact .inr ⟨c, 1, by simp only [pieceE, if_neg h1, if_pos h2]; rfl, by omega, by simp, inner_one c r h1 h2⟩
def innerG : List V → Option V
  | [.c (.s (.str t))] => if t.length < 35184372088832 then some (.tup [.inl (.s (.str ((innerE t).getD []))), .inl (.s (.bool (innerE t).isSome))]) else none
  | _ => none
theorem innerG_call {t : Bs} {gt : Bool} {K : V → Prop} : callE innerG [.c (.s (.str t))] gt K = ((gt = true → t.length < 35184372088832) ∧ bindV (ifV gt (.tup [.inl (.s (.str ((innerE t).getD []))), .inl (.s (.bool (innerE t).isSome))])) K) := callE_of rfl
theorem innerG_callo {t : Bs} {m : Nat → Option Ab.Obj} {locs : List Nat} {K : V → (Nat → Option Ab.Obj) → Prop} : callO innerG (some [.c (.s (.str t))]) m locs K = ((t.length < 35184372088832) ∧ K (.tup [.inl (.s (.str ((innerE t).getD []))), .inl (.s (.bool (innerE t).isSome))]) (sealW m locs (.tup [.inl (.s (.str ((innerE t).getD []))), .inl (.s (.bool (innerE t).isSome))]))) := callO_of rfl

def sc_word_inner : SC := .seq (
 .reg [
   ⟨some 2, .mv, [.k (.c (.s (.str [])))], none⟩,
   ⟨some 3, .mv, [.k (.c (.s (.bool false)))], none⟩]) (
 .seq (
  .reg [
    ⟨some 4, .allocB (39, 5), [], none⟩]) (
  .seq (
   .block 0 (
    .loop (
     .seq (
      .seq (
       .reg [
         ⟨some 7, .mv, [.t 0], none⟩,
         ⟨some 8, .bin .neq, [.t 7, .k (.c (.s (.str [])))], none⟩]) (
       .cond (.t 8) (
        .skip) (
        .exit 0))) (
      .block 1 (
       .seq (
        .reg [
          ⟨some 10, .mv, [.t 0], none⟩,
          ⟨some 11, .call 31, [.t 10], none⟩,
          ⟨some 9, .mv, [.t 11], none⟩,
          ⟨some 12, .ext 0, [.t 9], none⟩,
          ⟨some 13, .ext 1, [.t 9], none⟩,
          ⟨some 5, .mv, [.t 12], none⟩,
          ⟨some 6, .mv, [.t 13], none⟩]) (
        .seq (
         .seq (
          .reg [
            ⟨some 14, .mv, [.t 6], none⟩,
            ⟨some 15, .bin .eql, [.t 14, .k (.c (.s (.int .i64 0)))], none⟩]) (
          .cond (.t 15) (
           .seq (
            .reg [
              ⟨some 2, .mv, [.k (.c (.s (.str [])))], none⟩,
              ⟨some 3, .mv, [.k (.c (.s (.bool false)))], none⟩]) (
            .ret)) (
           .skip))) (
         .seq (
          .reg [
            ⟨some 16, .mv, [.t 5], none⟩,
            ⟨some 17, .bldByte 18 (39, 5), [.t 4, .t 16], none⟩]) (
          .reg [
            ⟨some 18, .mv, [.t 0], none⟩,
            ⟨some 19, .mv, [.t 6], none⟩,
            ⟨some 20, .slcS true false, [.t 18, .t 19], none⟩,
            ⟨some 0, .mv, [.t 20], none⟩])))))))) (
   .seq (
    .reg [
      ⟨some 21, .bldGet 21 (39, 5), [.t 4], none⟩,
      ⟨some 2, .mv, [.t 21], none⟩,
      ⟨some 3, .mv, [.k (.c (.s (.bool true)))], none⟩]) (
    .ret))))
noncomputable def G_word_inner : FuncId → Ab.Spec := addS (noS) 31 (plain pieceG)
theorem G_word_inner_ok : ∀ f, Contract Try.prog f (G_word_inner f) := (addS_ok (noS_ok _) contract_word_piece)
theorem G_word_inner_31 : G_word_inner 31 = plain pieceG := by simp [G_word_inner, addS]
set_option maxHeartbeats 4000000 in
set_option maxRecDepth 100000 in
set_option linter.unusedSimpArgs false in
set_option linter.unusedVariables false in
theorem contract_word_inner : Contract Try.prog 25 (plain innerG) := by
  have hb : ∃ c, Try.f25.body = some c ∧ codeOk 22 c = true ∧ cCode Try.prog c = sc_word_inner := ⟨_, rfl, by kernel_rfl, by kernel_rfl⟩
  obtain ⟨c, hb1, hb2, hb3⟩ := hb
  refine contract_of (n := 1) G_word_inner_ok hB hD Try.func25 hb1 (by kernel_rfl) hb2 hb3 (rs := [.tmp 2, .tmp 3]) (by kernel_rfl) (by decide) ?_ ?_
  · intro args x h
    unfold plain innerG at h
    split at h <;> simp_all
  · intro args r hr
    unfold plain innerG at hr
    split at hr
    case h_2 => cases hr
    rename_i t
    split at hr
    case isFalse => cases hr
    rename_i hc
    simp only [Option.map_some, Option.some.injEq] at hr
    subst hr
    unfold sc_word_inner
    simp +contextual (maxSteps := 4000000) only [↓exT_call G_word_inner_31, ↓exT_callo G_word_inner_31, pieceG_call, pieceG_callo, go_sem, Nat.reduceAdd, Nat.reduceSub, Nat.reduceMul, Nat.reduceEqDiff, Nat.reduceLeDiff, Nat.reduceLT, Nat.reduceBEq, Int.reduceLE, Int.reduceLT, Int.reduceToNat, Int.reduceNeg, Int.reduceAdd, Int.reduceSub, Int.reduceMul, ↓reduceIte]
    refine awp_loopM (α := Bs × Bs) (fun x => [(0, .c (.s (.str x.2))), (4, .c (.ptr 4 0))]) (fun x => [(4, .bld (39, 5) x.1)]) (fun x => x.2.length) ([], t) (fun x => innerE t = (innerE x.2).map (x.1 ++ ·) ∧ x.1.length + x.2.length ≤ t.length) ⟨by cases innerE t <;> simp, by simp⟩ (Weak.meets ?_) ?_
    · simp +contextual (maxSteps := 4000000) only [↓exT_call G_word_inner_31, ↓exT_callo G_word_inner_31, pieceG_call, pieceG_callo, go_sem, Nat.reduceAdd, Nat.reduceSub, Nat.reduceMul, Nat.reduceEqDiff, Nat.reduceLeDiff, Nat.reduceLT, Nat.reduceBEq, Int.reduceLE, Int.reduceLT, Int.reduceToNat, Int.reduceNeg, Int.reduceAdd, Int.reduceSub, Int.reduceMul, ↓reduceIte]
    rintro ⟨a, r⟩ ⟨hx1, hx2⟩
    simp only at hx1 hx2
    by_cases hr : r = []
    · subst hr
      simp only [inner_nil, Option.map_some, List.append_nil] at hx1
      simp +contextual (maxSteps := 4000000) only [↓exT_call G_word_inner_31, ↓exT_callo G_word_inner_31, pieceG_call, pieceG_callo, hx1, go_sem, Nat.reduceAdd, Nat.reduceSub, Nat.reduceMul, Nat.reduceEqDiff, Nat.reduceLeDiff, Nat.reduceLT, Nat.reduceBEq, Int.reduceLE, Int.reduceLT, Int.reduceToNat, Int.reduceNeg, Int.reduceAdd, Int.reduceSub, Int.reduceMul, ↓reduceIte]
      all_goals ((repeat' (first | with_reducible apply And.intro | intro)) <;> try omega)
    · rcases piece_inner hr with ⟨hp, hn⟩ | ⟨c, n, hp, hn1, hn2, hi⟩
      · rw [hn] at hx1
        simp +contextual (maxSteps := 4000000) only [↓exT_call G_word_inner_31, ↓exT_callo G_word_inner_31, pieceG_call, pieceG_callo, hr, hp, hx1, go_sem, Nat.reduceAdd, Nat.reduceSub, Nat.reduceMul, Nat.reduceEqDiff, Nat.reduceLeDiff, Nat.reduceLT, Nat.reduceBEq, Int.reduceLE, Int.reduceLT, Int.reduceToNat, Int.reduceNeg, Int.reduceAdd, Int.reduceSub, Int.reduceMul, ↓reduceIte]
        all_goals ((repeat' (first | with_reducible apply And.intro | intro)) <;> try omega)
      · have hn0 : ¬ (n : Int) = 0 := by omega
        simp +contextual (maxSteps := 4000000) only [↓exT_call G_word_inner_31, ↓exT_callo G_word_inner_31, pieceG_call, pieceG_callo, hr, hp, hn0, go_sem, Nat.reduceAdd, Nat.reduceSub, Nat.reduceMul, Nat.reduceEqDiff, Nat.reduceLeDiff, Nat.reduceLT, Nat.reduceBEq, Int.reduceLE, Int.reduceLT, Int.reduceToNat, Int.reduceNeg, Int.reduceAdd, Int.reduceSub, Int.reduceMul, ↓reduceIte]
        refine ⟨by omega, by omega, ⟨by omega, ⟨a ++ [c], r.drop n⟩, ⟨?_, ?_⟩, ?_, by simp, by simp⟩⟩
        · rw [hx1, hi]
          cases innerE (r.drop n) <;> simp
        · simp; omega
        · simp; omega

def unqG : List V → Option V
  | [.c (.s (.str t))] => if t.length < 35184372088832 then some (.tup [.inl (.s (.str (unquoteT t).1)), .inl (.s (.int .i64 (unquoteT t).2))]) else none
  | _ => none
theorem unqG_call {t : Bs} {gt : Bool} {K : V → Prop} : callE unqG [.c (.s (.str t))] gt K = ((gt = true → t.length < 35184372088832) ∧ bindV (ifV gt (.tup [.inl (.s (.str (unquoteT t).1)), .inl (.s (.int .i64 (unquoteT t).2))])) K) := callE_of rfl
theorem unqG_callo {t : Bs} {m : Nat → Option Ab.Obj} {locs : List Nat} {K : V → (Nat → Option Ab.Obj) → Prop} : callO unqG (some [.c (.s (.str t))]) m locs K = ((t.length < 35184372088832) ∧ K (.tup [.inl (.s (.str (unquoteT t).1)), .inl (.s (.int .i64 (unquoteT t).2))]) (sealW m locs (.tup [.inl (.s (.str (unquoteT t).1)), .inl (.s (.int .i64 (unquoteT t).2))]))) := callO_of rfl

theorem quoted_iff (t : Bs) : (decide (1 < (t.length : Int)) && decide (t.getD 0 0 = 34) && decide (t.getD ((t.length : Int) - 1).toNat 0 = 34)) = quotedB t := by
  match t with
  | [] => rfl
  | [c] => rfl
  | c :: d :: r =>
    have e : (((c :: d :: r).length : Int) - 1).toNat = r.length + 1 := by simp only [List.length_cons]; omega
    rw [e]
    have hl : (c :: d :: r).getLast? = some ((c :: d :: r).getD (r.length + 1) 0) := by
      rw [List.getLast?_eq_getElem?]; simp
    have h1 : decide (1 < ((c :: d :: r).length : Int)) = true := by simp only [List.length_cons]; exact decide_eq_true (by omega)
    have h2 : decide (2 ≤ (c :: d :: r).length) = true := by simp
    simp only [quotedB, hl, List.head?_cons, Option.some.injEq, h1, h2, List.getD_cons_zero]
def sc_word_Unquote : SC := .seq (
 .reg [
   ⟨some 2, .mv, [.k (.c (.s (.str [])))], none⟩,
   ⟨some 3, .mv, [.k (.c (.s (.int .i64 0)))], none⟩]) (
 .seq (
  .reg [
    ⟨some 6, .mv, [.t 0], none⟩,
    ⟨some 7, .mv, [.t 0], none⟩,
    ⟨some 8, .bin .neq, [.t 7, .k (.c (.s (.str [])))], none⟩,
    ⟨some 9, .mv, [.t 8], none⟩,
    ⟨some 10, .mv, [.t 0], some (9, true)⟩,
    ⟨some 11, .call 22, [.t 10], some (9, true)⟩,
    ⟨some 12, .mv, [.t 0], some (9, true)⟩,
    ⟨some 13, .len true, [.t 12], some (9, true)⟩,
    ⟨some 14, .bin .eql, [.t 11, .t 13], some (9, true)⟩,
    ⟨some 15, .pick, [.t 9, .t 14, .k (.c (.s (.bool false)))], none⟩,
    ⟨some 16, .mv, [.t 15], none⟩,
    ⟨some 17, .mv, [.t 0], some (16, true)⟩,
    ⟨some 18, .call 23, [.t 17], some (16, true)⟩,
    ⟨some 19, .not, [.t 18], some (16, true)⟩,
    ⟨some 20, .pick, [.t 16, .t 19, .k (.c (.s (.bool false)))], none⟩,
    ⟨some 4, .mv, [.t 6], none⟩,
    ⟨some 5, .mv, [.t 20], none⟩]) (
  .seq (
   .seq (
    .reg [
      ⟨some 21, .mv, [.t 0], none⟩,
      ⟨some 22, .len true, [.t 21], none⟩,
      ⟨some 23, .bin .gtr, [.t 22, .k (.c (.s (.int .i64 1)))], none⟩,
      ⟨some 24, .mv, [.t 23], none⟩,
      ⟨some 25, .mv, [.t 0], some (24, true)⟩,
      ⟨some 26, .idx, [.t 25, .k (.c (.s (.int .i64 0)))], some (24, true)⟩,
      ⟨some 27, .bin .eql, [.t 26, .k (.c (.s (.int .u8 34)))], some (24, true)⟩,
      ⟨some 28, .pick, [.t 24, .t 27, .k (.c (.s (.bool false)))], none⟩,
      ⟨some 29, .mv, [.t 28], none⟩,
      ⟨some 30, .mv, [.t 0], some (29, true)⟩,
      ⟨some 31, .mv, [.t 0], some (29, true)⟩,
      ⟨some 32, .len true, [.t 31], some (29, true)⟩,
      ⟨some 33, .bin .sub, [.t 32, .k (.c (.s (.int .i64 1)))], some (29, true)⟩,
      ⟨some 34, .idx, [.t 30, .t 33], some (29, true)⟩,
      ⟨some 35, .bin .eql, [.t 34, .k (.c (.s (.int .u8 34)))], some (29, true)⟩,
      ⟨some 36, .pick, [.t 29, .t 35, .k (.c (.s (.bool false)))], none⟩]) (
    .cond (.t 36) (
     .reg [
       ⟨some 38, .mv, [.t 0], none⟩,
       ⟨some 39, .mv, [.t 0], none⟩,
       ⟨some 40, .len true, [.t 39], none⟩,
       ⟨some 41, .bin .sub, [.t 40, .k (.c (.s (.int .i64 1)))], none⟩,
       ⟨some 42, .slcS true true, [.t 38, .k (.c (.s (.int .i64 1))), .t 41], none⟩,
       ⟨some 43, .call 25, [.t 42], none⟩,
       ⟨some 37, .mv, [.t 43], none⟩,
       ⟨some 44, .ext 0, [.t 37], none⟩,
       ⟨some 45, .ext 1, [.t 37], none⟩,
       ⟨some 4, .mv, [.t 44], none⟩,
       ⟨some 5, .mv, [.t 45], none⟩]) (
     .skip))) (
   .seq (
    .block 0 (
     .seq (
      .reg [
        ⟨some 47, .mv, [.t 5], none⟩,
        ⟨some 48, .not, [.t 47], none⟩,
        ⟨some 46, .mv, [.t 48], none⟩]) (
      .cond (.t 46) (
       .seq (
        .reg [
          ⟨some 2, .mv, [.k (.c (.s (.str [])))], none⟩,
          ⟨some 3, .mv, [.k (.c (.s (.int .i64 2)))], none⟩]) (
        .ret)) (
       .seq (
        .reg [
          ⟨some 50, .mv, [.t 4], none⟩,
          ⟨some 51, .len true, [.t 50], none⟩,
          ⟨some 52, .bin .gtr, [.t 51, .k (.c (.s (.int .i64 40)))], none⟩,
          ⟨some 49, .mv, [.t 52], none⟩]) (
        .cond (.t 49) (
         .seq (
          .reg [
            ⟨some 2, .mv, [.k (.c (.s (.str [])))], none⟩,
            ⟨some 3, .mv, [.k (.c (.s (.int .i64 5)))], none⟩]) (
          .ret)) (
         .skip)))))) (
    .seq (
     .reg [
       ⟨some 53, .mv, [.t 4], none⟩,
       ⟨some 2, .mv, [.t 53], none⟩,
       ⟨some 3, .mv, [.k (.c (.s (.int .i64 0)))], none⟩]) (
     .ret)))))
noncomputable def G_word_Unquote : FuncId → Ab.Spec := addS (addS (addS (noS) 22 (plain runG)) 23 (plain markG)) 25 (plain innerG)
theorem G_word_Unquote_ok : ∀ f, Contract Try.prog f (G_word_Unquote f) := (addS_ok (addS_ok (addS_ok (noS_ok _) contract_word_run) contract_word_mark) contract_word_inner)
theorem G_word_Unquote_22 : G_word_Unquote 22 = plain runG := by simp [G_word_Unquote, addS]
theorem G_word_Unquote_23 : G_word_Unquote 23 = plain markG := by simp [G_word_Unquote, addS]
theorem G_word_Unquote_25 : G_word_Unquote 25 = plain innerG := by simp [G_word_Unquote, addS]
set_option maxHeartbeats 4000000 in
set_option maxRecDepth 100000 in
set_option linter.unusedSimpArgs false in
set_option linter.unusedVariables false in
theorem contract_word_Unquote : Contract Try.prog 13 (plain unqG) := by
  have hb : ∃ c, Try.f13.body = some c ∧ codeOk 54 c = true ∧ cCode Try.prog c = sc_word_Unquote := ⟨_, rfl, by kernel_rfl, by kernel_rfl⟩
  obtain ⟨c, hb1, hb2, hb3⟩ := hb
  refine contract_of (n := 1) G_word_Unquote_ok hB hD Try.func13 hb1 (by kernel_rfl) hb2 hb3 (rs := [.tmp 2, .tmp 3]) (by kernel_rfl) (by decide) ?_ ?_
  · intro args x h
    unfold plain unqG at h
    split at h <;> simp_all
  · intro args r hr
    unfold plain unqG at hr
    split at hr
    case h_2 => cases hr
    rename_i t
    split at hr
    case isFalse => cases hr
    rename_i hc
    simp only [Option.map_some, Option.some.injEq] at hr
    subst hr
    unfold sc_word_Unquote
    cases hq : quotedB t with
    | true =>
      have hq' := hq
      rw [← quoted_iff] at hq'
      have hl : 1 < (t.length : Int) := by simp only [Bool.and_eq_true, decide_eq_true_eq] at hq'; exact hq'.1.1
      have e : List.drop 1 (List.take ((t.length : Int) - 1).toNat t) = (t.drop 1).dropLast := by
        have : ((t.length : Int) - 1).toNat = t.length - 1 := by omega
        rw [this, List.dropLast_eq_take, List.drop_take]; simp
      have hl2 : (t.drop 1).dropLast.length ≤ t.length := by simp; omega
      have hu : unquoteT t = match innerE (t.drop 1).dropLast with
        | none => ([], 2)
        | some s => if 40 < s.length then ([], 5) else (s, 0) := by
        unfold unquoteT readE; rw [hq]; rfl
      simp only [Bool.and_eq_true, decide_eq_true_eq] at hq'
      cases hi : innerE (t.drop 1).dropLast with
      | none =>
        rw [hi] at hu
        simp +contextual (maxSteps := 4000000) only [↓exT_call G_word_Unquote_22, ↓exT_callo G_word_Unquote_22, runG_call, runG_callo, ↓exT_call G_word_Unquote_23, ↓exT_callo G_word_Unquote_23, markG_call, markG_callo, ↓exT_call G_word_Unquote_25, ↓exT_callo G_word_Unquote_25, innerG_call, innerG_callo, hq'.1.1, hq'.1.2, hq'.2, e, hi, hu, go_sem, Nat.reduceAdd, Nat.reduceSub, Nat.reduceMul, Nat.reduceEqDiff, Nat.reduceLeDiff, Nat.reduceLT, Nat.reduceBEq, Int.reduceLE, Int.reduceLT, Int.reduceToNat, Int.reduceNeg, Int.reduceAdd, Int.reduceSub, Int.reduceMul, ↓reduceIte]
        all_goals ((repeat' (first | with_reducible apply And.intro | intro)) <;> try omega)
      | some s =>
        rw [hi] at hu
        by_cases h40 : 40 < s.length
        · simp only [h40, if_true] at hu
          have h40' : 40 < (s.length : Int) := by omega
          simp +contextual (maxSteps := 4000000) only [↓exT_call G_word_Unquote_22, ↓exT_callo G_word_Unquote_22, runG_call, runG_callo, ↓exT_call G_word_Unquote_23, ↓exT_callo G_word_Unquote_23, markG_call, markG_callo, ↓exT_call G_word_Unquote_25, ↓exT_callo G_word_Unquote_25, innerG_call, innerG_callo, hq'.1.1, hq'.1.2, hq'.2, e, hi, hu, h40', go_sem, Nat.reduceAdd, Nat.reduceSub, Nat.reduceMul, Nat.reduceEqDiff, Nat.reduceLeDiff, Nat.reduceLT, Nat.reduceBEq, Int.reduceLE, Int.reduceLT, Int.reduceToNat, Int.reduceNeg, Int.reduceAdd, Int.reduceSub, Int.reduceMul, ↓reduceIte]
          all_goals ((repeat' (first | with_reducible apply And.intro | intro)) <;> try omega)
        · simp only [h40, if_false] at hu
          have h40' : ¬ 40 < (s.length : Int) := by omega
          simp +contextual (maxSteps := 4000000) only [↓exT_call G_word_Unquote_22, ↓exT_callo G_word_Unquote_22, runG_call, runG_callo, ↓exT_call G_word_Unquote_23, ↓exT_callo G_word_Unquote_23, markG_call, markG_callo, ↓exT_call G_word_Unquote_25, ↓exT_callo G_word_Unquote_25, innerG_call, innerG_callo, hq'.1.1, hq'.1.2, hq'.2, e, hi, hu, h40', go_sem, Nat.reduceAdd, Nat.reduceSub, Nat.reduceMul, Nat.reduceEqDiff, Nat.reduceLeDiff, Nat.reduceLT, Nat.reduceBEq, Int.reduceLE, Int.reduceLT, Int.reduceToNat, Int.reduceNeg, Int.reduceAdd, Int.reduceSub, Int.reduceMul, ↓reduceIte]
          all_goals ((repeat' (first | with_reducible apply And.intro | intro)) <;> try omega)
    | false =>
      have hq' := hq
      rw [← quoted_iff] at hq'
      have hu : unquoteT t = match (if wordC t then some t else none) with
        | none => ([], 2)
        | some s => if 40 < s.length then ([], 5) else (s, 0) := by
        unfold unquoteT readE; rw [hq]; rfl
      have hw : (!decide (t = []) && decide ((bareN t : Int) = (t.length : Int)) && !markC t) = wordC t := by rw [len_bare]; rfl
      cases hwt : wordC t with
      | false =>
        rw [hwt] at hu hw
        simp +contextual (maxSteps := 4000000) only [↓exT_call G_word_Unquote_22, ↓exT_callo G_word_Unquote_22, runG_call, runG_callo, ↓exT_call G_word_Unquote_23, ↓exT_callo G_word_Unquote_23, markG_call, markG_callo, ↓exT_call G_word_Unquote_25, ↓exT_callo G_word_Unquote_25, innerG_call, innerG_callo, hq', hu, hw, go_sem, Nat.reduceAdd, Nat.reduceSub, Nat.reduceMul, Nat.reduceEqDiff, Nat.reduceLeDiff, Nat.reduceLT, Nat.reduceBEq, Int.reduceLE, Int.reduceLT, Int.reduceToNat, Int.reduceNeg, Int.reduceAdd, Int.reduceSub, Int.reduceMul, ↓reduceIte]
        all_goals ((repeat' (first | with_reducible apply And.intro | intro)) <;> try omega)
      | true =>
        rw [hwt] at hu hw
        by_cases h40 : 40 < t.length
        · simp [h40] at hu
          have h40' : 40 < (t.length : Int) := by omega
          simp +contextual (maxSteps := 4000000) only [↓exT_call G_word_Unquote_22, ↓exT_callo G_word_Unquote_22, runG_call, runG_callo, ↓exT_call G_word_Unquote_23, ↓exT_callo G_word_Unquote_23, markG_call, markG_callo, ↓exT_call G_word_Unquote_25, ↓exT_callo G_word_Unquote_25, innerG_call, innerG_callo, hq', hu, hw, h40', go_sem, Nat.reduceAdd, Nat.reduceSub, Nat.reduceMul, Nat.reduceEqDiff, Nat.reduceLeDiff, Nat.reduceLT, Nat.reduceBEq, Int.reduceLE, Int.reduceLT, Int.reduceToNat, Int.reduceNeg, Int.reduceAdd, Int.reduceSub, Int.reduceMul, ↓reduceIte]
          all_goals ((repeat' (first | with_reducible apply And.intro | intro)) <;> try omega)
        · simp [h40] at hu
          have h40' : ¬ 40 < (t.length : Int) := by omega
          simp +contextual (maxSteps := 4000000) only [↓exT_call G_word_Unquote_22, ↓exT_callo G_word_Unquote_22, runG_call, runG_callo, ↓exT_call G_word_Unquote_23, ↓exT_callo G_word_Unquote_23, markG_call, markG_callo, ↓exT_call G_word_Unquote_25, ↓exT_callo G_word_Unquote_25, innerG_call, innerG_callo, hq', hu, hw, h40', go_sem, Nat.reduceAdd, Nat.reduceSub, Nat.reduceMul, Nat.reduceEqDiff, Nat.reduceLeDiff, Nat.reduceLT, Nat.reduceBEq, Int.reduceLE, Int.reduceLT, Int.reduceToNat, Int.reduceNeg, Int.reduceAdd, Int.reduceSub, Int.reduceMul, ↓reduceIte]
          all_goals ((repeat' (first | with_reducible apply And.intro | intro)) <;> try omega)

end Go.Proofs.Ytkhplfdijadhbaa
