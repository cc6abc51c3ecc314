/- Values and conditions of operations; what a body hands back; the laws in the set go_sem. -/
import Derived.Test.YtcnemnehjpaggaaAb26
import Derived.Attr
set_option linter.all false
namespace Go.Ab
open Go

section
variable {Γ : FuncId → Spec} {m : Nat → Option Obj} {d : Nat}
theorem kmin64 : IntKind.min .i64 = -9223372036854775808 := nr rfl
theorem kmax64 : IntKind.max .i64 = 9223372036854775807 := nr rfl
theorem kmin8 : IntKind.min .u8 = 0 := nr rfl
theorem kmax8 : IntKind.max .u8 = 255 := nr rfl
theorem bits64 : IntKind.bits .i64 = 64 := nr rfl
theorem bits8 : IntKind.bits .u8 = 8 := nr rfl
theorem kminu64 : IntKind.min .u64 = 0 := nr rfl
theorem kmaxu64 : IntKind.max .u64 = 18446744073709551615 := nr rfl
theorem inK_eq {k : IntKind} {n : Int} : (inK k n = true) = (k.min ≤ n ∧ n ≤ k.max) := by simp [inK]
theorem v_quo {k : IntKind} {a b : Int} : runV m (.bin .quo) [.c (.s (.int k a)), .c (.s (.int k b))] = .c (.s (.int k (a / b))) := nr rfl
theorem v_rem {k : IntKind} {a b : Int} : runV m (.bin .rem) [.c (.s (.int k a)), .c (.s (.int k b))] = .c (.s (.int k (a % b))) := nr rfl
theorem ok_quo {k : IntKind} {a b : Int} : okO (run Γ d m (.bin .quo) [.c (.s (.int k a)), .c (.s (.int k b))]) = (0 ≤ a ∧ 0 < b ∧ a ≤ k.max) := by
  have hk : k.min ≤ 0 := by cases k <;> decide
  by_cases h : 0 ≤ a ∧ 0 < b ∧ inK k a = true
  · have : a ≤ k.max := by have := h.2.2; simp [inK] at this; exact this.2
    simp [okO, run, runBin, binS, binI, h, this]
  · have : ¬ (0 ≤ a ∧ 0 < b ∧ a ≤ k.max) := fun hh => h ⟨hh.1, hh.2.1, by simp [inK]; exact ⟨by omega, hh.2.2⟩⟩
    simp only [okO, run, runBin, binS, if_true, binI, if_neg h, this]
    simp
theorem ok_rem {k : IntKind} {a b : Int} : okO (run Γ d m (.bin .rem) [.c (.s (.int k a)), .c (.s (.int k b))]) = (0 ≤ a ∧ 0 < b) := by
  by_cases h : 0 ≤ a ∧ 0 < b <;> simp [okO, run, runBin, binS, binI, h]
theorem v_andI {k : IntKind} {a b : Int} (h : 0 ≤ a ∧ 0 ≤ b ∧ a ≤ k.max ∧ b ≤ k.max) : runV m (.bin .and) [.c (.s (.int k a)), .c (.s (.int k b))] = .c (.s (.int k ((a.toNat &&& b.toNat : Nat) : Int))) := by
  have hk : k.min ≤ 0 := by cases k <;> decide
  have : 0 ≤ a ∧ 0 ≤ b ∧ inK k a = true ∧ inK k b = true := ⟨h.1, h.2.1, by simp [inK]; omega, by simp [inK]; omega⟩
  simp [runV, binV, binS, binI, this]
theorem v_orI {k : IntKind} {a b : Int} (h : 0 ≤ a ∧ 0 ≤ b ∧ a ≤ k.max ∧ b ≤ k.max) : runV m (.bin .or) [.c (.s (.int k a)), .c (.s (.int k b))] = .c (.s (.int k ((a.toNat ||| b.toNat : Nat) : Int))) := by
  have hk : k.min ≤ 0 := by cases k <;> decide
  have : 0 ≤ a ∧ 0 ≤ b ∧ inK k a = true ∧ inK k b = true := ⟨h.1, h.2.1, by simp [inK]; omega, by simp [inK]; omega⟩
  simp [runV, binV, binS, binI, this]
theorem ok_andI {k : IntKind} {a b : Int} : okO (run Γ d m (.bin .and) [.c (.s (.int k a)), .c (.s (.int k b))]) = (0 ≤ a ∧ 0 ≤ b ∧ a ≤ k.max ∧ b ≤ k.max) := by
  have hk : k.min ≤ 0 := by cases k <;> decide
  have e : (0 ≤ a ∧ 0 ≤ b ∧ inK k a = true ∧ inK k b = true) ↔ (0 ≤ a ∧ 0 ≤ b ∧ a ≤ k.max ∧ b ≤ k.max) := by simp [inK]; omega
  by_cases h : 0 ≤ a ∧ 0 ≤ b ∧ inK k a = true ∧ inK k b = true
  · simp [okO, run, runBin, binS, binI, h, e.1 h]
  · simp only [okO, run, runBin, binS, if_true, binI, if_neg h, eq_false (fun x => h (e.2 x))]; simp
theorem ok_orI {k : IntKind} {a b : Int} : okO (run Γ d m (.bin .or) [.c (.s (.int k a)), .c (.s (.int k b))]) = (0 ≤ a ∧ 0 ≤ b ∧ a ≤ k.max ∧ b ≤ k.max) := by
  have hk : k.min ≤ 0 := by cases k <;> decide
  have e : (0 ≤ a ∧ 0 ≤ b ∧ inK k a = true ∧ inK k b = true) ↔ (0 ≤ a ∧ 0 ≤ b ∧ a ≤ k.max ∧ b ≤ k.max) := by simp [inK]; omega
  by_cases h : 0 ≤ a ∧ 0 ≤ b ∧ inK k a = true ∧ inK k b = true
  · simp [okO, run, runBin, binS, binI, h, e.1 h]
  · simp only [okO, run, runBin, binS, if_true, binI, if_neg h, eq_false (fun x => h (e.2 x))]; simp
theorem v_shrI {k k' : IntKind} {a y : Int} (h : 0 ≤ y ∧ y < k.bits) : runV m (.bin .shr) [.c (.s (.int k a)), .c (.s (.int k' y))] = .c (.s (.int k (a / 2 ^ y.toNat))) := v_shr h
theorem ok_shrI {k k' : IntKind} {a y : Int} : okO (run Γ d m (.bin .shr) [.c (.s (.int k a)), .c (.s (.int k' y))]) = (0 ≤ y ∧ y < k.bits) := by
  by_cases h : 0 ≤ y ∧ y < k.bits
  · rw [ok_shr h]; simp [h]
  · simp only [okO, run, runBin, binS, if_neg h, eq_false h]; simp
theorem v_shlI {k k' : IntKind} {a y : Int} (h : 0 ≤ y ∧ y < k.bits ∧ k.min ≤ a * 2 ^ y.toNat ∧ a * 2 ^ y.toNat ≤ k.max) : runV m (.bin .shl) [.c (.s (.int k a)), .c (.s (.int k' y))] = .c (.s (.int k (a * 2 ^ y.toNat))) := by
  have : 0 ≤ y ∧ y < k.bits ∧ inK k (a * 2 ^ y.toNat) = true := ⟨h.1, h.2.1, by simp [inK]; exact h.2.2⟩
  simp only [runV, binV, binS, if_pos this]
theorem ok_shlI {k k' : IntKind} {a y : Int} : okO (run Γ d m (.bin .shl) [.c (.s (.int k a)), .c (.s (.int k' y))]) = (0 ≤ y ∧ y < k.bits ∧ k.min ≤ a * 2 ^ y.toNat ∧ a * 2 ^ y.toNat ≤ k.max) := by
  have e : (0 ≤ y ∧ y < k.bits ∧ inK k (a * 2 ^ y.toNat) = true) ↔ (0 ≤ y ∧ y < k.bits ∧ k.min ≤ a * 2 ^ y.toNat ∧ a * 2 ^ y.toNat ≤ k.max) := by simp [inK]
  by_cases h : 0 ≤ y ∧ y < k.bits ∧ inK k (a * 2 ^ y.toNat) = true
  · simp only [okO, run, runBin, binS, if_pos h, eq_true (e.1 h)]; simp
  · simp only [okO, run, runBin, binS, if_neg h, eq_false (fun x => h (e.2 x))]; simp
theorem v_sless {a b : List UInt8} : runV m (.bin .lss) [.c (.s (.str a)), .c (.s (.str b))] = .c (.s (.bool (Op.bytesLess a b))) := nr rfl
theorem v_sleq {a b : List UInt8} : runV m (.bin .leq) [.c (.s (.str a)), .c (.s (.str b))] = .c (.s (.bool (Op.bytesLess a b || a == b))) := nr rfl
theorem v_sgtr {a b : List UInt8} : runV m (.bin .gtr) [.c (.s (.str a)), .c (.s (.str b))] = .c (.s (.bool (!(Op.bytesLess a b || a == b)))) := nr rfl
theorem v_sgeq {a b : List UInt8} : runV m (.bin .geq) [.c (.s (.str a)), .c (.s (.str b))] = .c (.s (.bool (!Op.bytesLess a b))) := nr rfl
theorem ok_sless {a b : List UInt8} : okO (run Γ d m (.bin .lss) [.c (.s (.str a)), .c (.s (.str b))]) = True := by simp [okO, run, runBin, binS]
theorem ok_sleq {a b : List UInt8} : okO (run Γ d m (.bin .leq) [.c (.s (.str a)), .c (.s (.str b))]) = True := by simp [okO, run, runBin, binS]
theorem ok_sgtr {a b : List UInt8} : okO (run Γ d m (.bin .gtr) [.c (.s (.str a)), .c (.s (.str b))]) = True := by simp [okO, run, runBin, binS]
theorem ok_sgeq {a b : List UInt8} : okO (run Γ d m (.bin .geq) [.c (.s (.str a)), .c (.s (.str b))]) = True := by simp [okO, run, runBin, binS]
theorem v_eqB0 {a b : Bool} : runV m (.eqB false) [.c (.s (.bool a)), .c (.s (.bool b))] = .c (.s (.bool (a == b))) := by cases a <;> cases b <;> rfl
theorem v_eqB1 {a b : Bool} : runV m (.eqB true) [.c (.s (.bool a)), .c (.s (.bool b))] = .c (.s (.bool (!(a == b)))) := by cases a <;> cases b <;> rfl
theorem ok_eqB {n a b : Bool} : okO (run Γ d m (.eqB n) [.c (.s (.bool a)), .c (.s (.bool b))]) = True := by simp [okO, run, runEqB]
/-- Structs of scalars, compared. -/
def eqAV (neg : Bool) : Option Bool → V
  | some b => .c (.s (.bool (b != neg)))
  | none => .junk
theorem v_eqA {neg : Bool} {tags : List Nat} {xs ys : List C} : runV m (.eqA neg tags) [.agg xs, .agg ys] = eqAV neg (eqRow tags xs ys) := by
  simp only [runV, run, runEqA]
  cases eqRow tags xs ys <;> rfl
theorem ok_eqA {neg : Bool} {tags : List Nat} {xs ys : List C} : okO (run Γ d m (.eqA neg tags) [.agg xs, .agg ys]) = ((eqRow tags xs ys).isSome = true) := by
  simp only [run, runEqA, okO]
  cases eqRow tags xs ys <;> simp
theorem eqAV0 {b : Bool} : eqAV false (some b) = .c (.s (.bool b)) := by cases b <;> rfl
theorem eqAV1 {b : Bool} : eqAV true (some b) = .c (.s (.bool (!b))) := by cases b <;> rfl
theorem eqRow_nil : eqRow [] [] [] = some true := nr rfl
theorem eqRow_int {ts : List Nat} {k : IntKind} {a b : Int} {xs ys : List C} : eqRow (1 :: ts) (.s (.int k a) :: xs) (.s (.int k b) :: ys) = (eqRow ts xs ys).map (decide (a = b) && ·) := by
  simp only [eqRow, eqC, if_true]
  have : (a == b) = decide (a = b) := by by_cases h : a = b <;> simp [h]
  rw [this]
  cases eqRow ts xs ys <;> rfl
theorem eqRow_str {ts : List Nat} {a b : List UInt8} {xs ys : List C} : eqRow (2 :: ts) (.s (.str a) :: xs) (.s (.str b) :: ys) = (eqRow ts xs ys).map (decide (a = b) && ·) := by
  simp only [eqRow, eqC]
  have : (a == b) = decide (a = b) := by by_cases h : a = b <;> simp [h]
  rw [this]
  cases eqRow ts xs ys <;> rfl
theorem eqRow_bool {ts : List Nat} {a b : Bool} {xs ys : List C} : eqRow (0 :: ts) (.s (.bool a) :: xs) (.s (.bool b) :: ys) = (eqRow ts xs ys).map (decide (a = b) && ·) := by
  simp only [eqRow, eqC]
  have : (a == b) = decide (a = b) := by cases a <;> cases b <;> rfl
  rw [this]
  cases eqRow ts xs ys <;> rfl
/-- How long a slice of the frame's own is. -/
def lenOO (o : Option Obj) (n : Nat) : Prop := match rowOf o with
  | some (_, rows) => n = rows.length
  | none => False
theorem lenOO_row {k n : Nat} {rows : List (List S)} : lenOO (some (.row k rows)) n = (n = rows.length) := nr rfl
theorem lenOO_srow {k n : Nat} {rows : List (List S)} : lenOO (some (.srow k rows)) n = (n = rows.length) := nr rfl
theorem own_of {l n : Nat} (h : lenOO (m l) n) : ∃ k rows, ownRows m l n = some (k, rows) ∧ rowOf (m l) = some (k, rows) ∧ n = rows.length := by
  unfold lenOO at h
  split at h
  · rename_i k rows e
    refine ⟨k, rows, ?_, e, h⟩
    unfold ownRows
    unfold rowOf at e
    split at e
    · rename_i e2; simp only [Option.some.injEq, Prod.mk.injEq] at e; obtain ⟨rfl, rfl⟩ := e; simp [e2, h]
    · rename_i e2; simp only [Option.some.injEq, Prod.mk.injEq] at e; obtain ⟨rfl, rfl⟩ := e; simp [e2, h]
    · cases e
  · exact h.elim
theorem own_not {l n : Nat} (h : ¬ lenOO (m l) n) : ownRows m l n = none := by
  unfold ownRows
  cases e : m l with
  | none => rfl
  | some o =>
    cases o with
    | row k rows => rw [e] at h; simp only [lenOO_row] at h; simp [h]
    | srow k rows => rw [e] at h; simp only [lenOO_srow] at h; simp [h]
    | _ => rfl
theorem v_lenO {l n : Nat} (h : lenOO (m l) n) : runV m (.len false) [.c (.own l n)] = .c (.s (.int .i64 n)) := by
  obtain ⟨k, rows, h1, _, h2⟩ := own_of h
  subst h2
  simp only [runV, run, runLen, h1, valO, Bool.false_eq_true, if_false, Option.map_some]
theorem ok_lenO {l n : Nat} : okO (run Γ d m (.len false) [.c (.own l n)]) = lenOO (m l) n := by
  by_cases h : lenOO (m l) n
  · obtain ⟨k, rows, h1, _, h2⟩ := own_of h
    simp [okO, run, runLen, h1, h]
  · simp [okO, run, runLen, own_not h, h]
/-- A number of another kind. -/
def wrapK (k : IntKind) (n : Int) : Int := if inK k n = true then n else k.wrap n
theorem v_conv {k k' : IntKind} {n : Int} : runV m (.conv k) [.c (.s (.int k' n))] = .c (.s (.int k (wrapK k n))) := by
  simp only [runV, run, runConv, wrapK]
  split <;> rfl
theorem ok_conv {k k' : IntKind} {n : Int} : okO (run Γ d m (.conv k) [.c (.s (.int k' n))]) = True := by
  simp only [okO, run, runConv]
  split <;> simp
theorem wrap64 {n : Int} (h : -9223372036854775808 ≤ n ∧ n ≤ 9223372036854775807) : wrapK .i64 n = n := by
  unfold wrapK; rw [if_pos]; rw [inK_eq, kmin64, kmax64]; exact h
theorem wrap64_byte {c : UInt8} : wrapK .i64 (c.toNat : Int) = c.toNat := wrap64 (by have := c.toNat_lt; omega)
theorem wrap8 {n : Int} : wrapK .u8 n = n % 256 := by
  unfold wrapK
  split
  · rename_i h; rw [inK_eq, kmin8, kmax8] at h; omega
  · simp [IntKind.wrap, IntKind.signed, IntKind.bits]
theorem v_same {s : List UInt8} : runV m .same [.c (.s (.str s))] = .c (.s (.str s)) := nr rfl
theorem ok_same {s : List UInt8} : okO (run Γ d m .same [.c (.s (.str s))]) = True := by simp [okO, run, runSame]
/-- The bytes of a row, as a string. -/
theorem v_toStr {l n : Nat} (h : (bytesOf (m l) n).isSome = true) : runV m .toStr [.c (.own l n)] = .c (.s (.str ((bytesOf (m l) n).getD []))) := v_rowStr h
theorem ok_toStr {l n : Nat} (h : (bytesOf (m l) n).isSome = true) : okO (run Γ d m .toStr [.c (.own l n)]) = True := ok_rowStr h
theorem v_fld {off n : Nat} {agg : Bool} {xs : List C} : runV m (.fld off n agg) [.agg xs] = (takeV n agg (xs.drop off)).getD .junk := by
  simp only [runV, run, runFld]
  cases takeV n agg (xs.drop off) <;> rfl
theorem ok_fld {off n : Nat} {agg : Bool} {xs : List C} : okO (run Γ d m (.fld off n agg) [.agg xs]) = ((takeV n agg (xs.drop off)).isSome = true) := by
  simp only [okO, run, runFld]
  cases takeV n agg (xs.drop off) <;> simp
theorem take_c {n : Nat} {x : C} {r : List C} : takeV n false (x :: r) = some (.c x) := nr rfl
theorem take_a {n : Nat} {xs : List C} : takeV n true xs = if n ≤ xs.length then some (.agg (xs.take n)) else none := nr rfl
def extV : Option (C ⊕ List C) → V
  | some (.inl x) => .c x
  | some (.inr xs) => .agg xs
  | none => .junk
theorem v_extx {i : Nat} {xs : List (C ⊕ List C)} : runV m (.ext i) [.tup xs] = extV xs[i]? := by
  simp only [runV, run, runExt]
  cases xs[i]? with
  | none => rfl
  | some y => cases y <;> rfl
theorem ok_ext {i : Nat} {xs : List (C ⊕ List C)} : okO (run Γ d m (.ext i) [.tup xs]) = (xs[i]?.isSome = true) := by
  simp only [okO, run, runExt]
  cases xs[i]? with
  | none => simp
  | some y => cases y <;> simp
theorem extV_l {x : C} : extV (some (.inl x)) = .c x := nr rfl
theorem extV_r {x : List C} : extV (some (.inr x)) = .agg x := nr rfl
/-- Slices of sealed rows. -/
theorem v_slcLl {k k' : Nat} {rows : List (List S)} {f : Bool} {kk : IntKind} {i : Int} (h : (k' = k ∨ rows = []) ∧ 0 ≤ i ∧ i ≤ rows.length) :
    runV m (.slcL k true false false) [.c (.s (.list k' rows f)), .c (.s (.int kk i))] = .c (.s (.list k (rows.drop i.toNat) f)) := by
  simp [runV, run, runSlcL, split3, slcBounds, optI, intV, h, valO]
theorem ok_slcLl {k k' : Nat} {rows : List (List S)} {f : Bool} {kk : IntKind} {i : Int} : okO (run Γ d m (.slcL k true false false) [.c (.s (.list k' rows f)), .c (.s (.int kk i))]) = ((k' = k ∨ rows = []) ∧ 0 ≤ i ∧ i ≤ rows.length) := by
  by_cases h1 : k' = k ∨ rows = [] <;> by_cases h2 : 0 ≤ i ∧ i ≤ rows.length <;> simp [okO, run, runSlcL, split3, slcBounds, optI, intV, h1, h2]
theorem v_slcLh {k k' : Nat} {rows : List (List S)} {f : Bool} {kk : IntKind} {i : Int} (h : (k' = k ∨ rows = []) ∧ 0 ≤ i ∧ i ≤ rows.length) :
    runV m (.slcL k false true false) [.c (.s (.list k' rows f)), .c (.s (.int kk i))] = .c (.s (.list k (rows.take i.toNat) (f && decide (i.toNat = rows.length)))) := by
  have e : (i.toNat == rows.length) = decide (i.toNat = rows.length) := by by_cases h : i.toNat = rows.length <;> simp [h]
  simp [runV, run, runSlcL, split3, slcBounds, optI, intV, h, valO, e]
theorem ok_slcLh {k k' : Nat} {rows : List (List S)} {f : Bool} {kk : IntKind} {i : Int} : okO (run Γ d m (.slcL k false true false) [.c (.s (.list k' rows f)), .c (.s (.int kk i))]) = ((k' = k ∨ rows = []) ∧ 0 ≤ i ∧ i ≤ rows.length) := by
  by_cases h1 : k' = k ∨ rows = [] <;> by_cases h2 : 0 ≤ i ∧ i ≤ rows.length <;> simp [okO, run, runSlcL, split3, slcBounds, optI, intV, h1, h2]
theorem v_slcLb {k k' : Nat} {rows : List (List S)} {f : Bool} {kk kl : IntKind} {i j : Int} (h : (k' = k ∨ rows = []) ∧ 0 ≤ i ∧ i ≤ j ∧ j ≤ rows.length) :
    runV m (.slcL k true true false) [.c (.s (.list k' rows f)), .c (.s (.int kk i)), .c (.s (.int kl j))] = .c (.s (.list k ((rows.take j.toNat).drop i.toNat) (f && decide (j.toNat = rows.length)))) := by
  have e : (j.toNat == rows.length) = decide (j.toNat = rows.length) := by by_cases h : j.toNat = rows.length <;> simp [h]
  simp [runV, run, runSlcL, split3, slcBounds, optI, intV, h, valO, e]
theorem ok_slcLb {k k' : Nat} {rows : List (List S)} {f : Bool} {kk kl : IntKind} {i j : Int} : okO (run Γ d m (.slcL k true true false) [.c (.s (.list k' rows f)), .c (.s (.int kk i)), .c (.s (.int kl j))]) = ((k' = k ∨ rows = []) ∧ 0 ≤ i ∧ i ≤ j ∧ j ≤ rows.length) := by
  by_cases h1 : k' = k ∨ rows = [] <;> by_cases h2 : 0 ≤ i ∧ i ≤ j ∧ j ≤ rows.length <;> simp [okO, run, runSlcL, split3, slcBounds, optI, intV, h1, h2]
theorem v_slcLx {k k' : Nat} {rows : List (List S)} {f : Bool} {kk kl : IntKind} {i j : Int} (h : (k' = k ∨ rows = []) ∧ 0 ≤ i ∧ i ≤ j ∧ j ≤ rows.length) :
    runV m (.slcL k false true true) [.c (.s (.list k' rows f)), .c (.s (.int kk i)), .c (.s (.int kl j))] = .c (.s (.list k (rows.take i.toNat) (decide (i.toNat = j.toNat)))) := by
  have e : (i.toNat == j.toNat) = decide (i.toNat = j.toNat) := by by_cases h : i.toNat = j.toNat <;> simp [h]
  simp [runV, run, runSlcL, split3, slcBounds, optI, intV, h, valO, e]
theorem ok_slcLx {k k' : Nat} {rows : List (List S)} {f : Bool} {kk kl : IntKind} {i j : Int} : okO (run Γ d m (.slcL k false true true) [.c (.s (.list k' rows f)), .c (.s (.int kk i)), .c (.s (.int kl j))]) = ((k' = k ∨ rows = []) ∧ 0 ≤ i ∧ i ≤ j ∧ j ≤ rows.length) := by
  by_cases h1 : k' = k ∨ rows = [] <;> by_cases h2 : 0 ≤ i ∧ i ≤ j ∧ j ≤ rows.length <;> simp [okO, run, runSlcL, split3, slcBounds, optI, intV, h1, h2]
/-- Addresses. -/
theorem v_fadrP {off l o : Nat} : runV m (.fadr off) [.c (.ptr l o)] = .c (.ptr l (o + off)) := nr rfl
theorem ok_fadrP {off l o : Nat} : okO (run Γ d m (.fadr off) [.c (.ptr l o)]) = True := by simp [okO, run, runFadr]
theorem v_fadrC {off : Nat} {cells : List S} : runV m (.fadr off) [.c (.s (.cref cells))] = .c (.s (.cref (cells.drop off))) := nr rfl
theorem ok_fadrC {off : Nat} {cells : List S} : okO (run Γ d m (.fadr off) [.c (.s (.cref cells))]) = True := by simp [okO, run, runFadr]
theorem v_fadrO {off l n i o : Nat} (h : lenOO (m l) n) : runV m (.fadr off) [.c (.optr l n i o)] = .c (.optr l n i (o + off)) := by
  obtain ⟨k, rows, h1, _, h2⟩ := own_of h
  simp [runV, run, runFadr, h1, valO]
theorem ok_fadrO {off l n i o : Nat} : okO (run Γ d m (.fadr off) [.c (.optr l n i o)]) = lenOO (m l) n := by
  by_cases h : lenOO (m l) n
  · obtain ⟨k, rows, h1, _, h2⟩ := own_of h
    simp [okO, run, runFadr, h1, h]
  · simp [okO, run, runFadr, own_not h, h]
theorem v_iadrL {k k' : Nat} {rows : List (List S)} {f : Bool} {kk : IntKind} {i : Int} (h : k' = k ∧ 0 ≤ i ∧ i < rows.length) : runV m (.iadr k) [.c (.s (.list k' rows f)), .c (.s (.int kk i))] = .c (.s (.cref (rows.getD i.toNat []))) := by
  simp only [runV, run, runIadr, if_pos h, valO]
theorem ok_iadrL {k k' : Nat} {rows : List (List S)} {f : Bool} {kk : IntKind} {i : Int} : okO (run Γ d m (.iadr k) [.c (.s (.list k' rows f)), .c (.s (.int kk i))]) = (k' = k ∧ 0 ≤ i ∧ i < rows.length) := by
  by_cases h : k' = k ∧ 0 ≤ i ∧ i < rows.length <;> simp [okO, run, runIadr, h]
def iadrOO (o : Option Obj) (n k : Nat) (i : Int) : Prop := match rowOf o with
  | some (k', rows) => k' = k ∧ n = rows.length ∧ 0 ≤ i ∧ i < rows.length
  | none => False
theorem iadrOO_row {k' k n : Nat} {rows : List (List S)} {i : Int} : iadrOO (some (.row k' rows)) n k i = (k' = k ∧ n = rows.length ∧ 0 ≤ i ∧ i < rows.length) := nr rfl
theorem iadrOO_srow {k' k n : Nat} {rows : List (List S)} {i : Int} : iadrOO (some (.srow k' rows)) n k i = (k' = k ∧ n = rows.length ∧ 0 ≤ i ∧ i < rows.length) := nr rfl
theorem iadr_run {l n k : Nat} {kk : IntKind} {i : Int} (h : iadrOO (m l) n k i) : run Γ d m (.iadr k) [.c (.own l n), .c (.s (.int kk i))] = some (.c (.optr l n i.toNat 0), []) := by
  unfold iadrOO at h
  split at h
  · rename_i k' rows e
    have hl : lenOO (m l) n := by unfold lenOO; rw [e]; exact h.2.1
    obtain ⟨k2, rows2, h1, h2, h3⟩ := own_of hl
    rw [e] at h2
    simp only [Option.some.injEq, Prod.mk.injEq] at h2
    obtain ⟨rfl, rfl⟩ := h2
    simp only [run, runIadr, h1]
    rw [if_pos ⟨h.1, h.2.2⟩]
  · exact h.elim
theorem v_iadrO {l n k : Nat} {kk : IntKind} {i : Int} (h : iadrOO (m l) n k i) : runV m (.iadr k) [.c (.own l n), .c (.s (.int kk i))] = .c (.optr l n i.toNat 0) := by
  simp only [runV, iadr_run h, valO]
theorem ok_iadrO {l n k : Nat} {kk : IntKind} {i : Int} : okO (run Γ d m (.iadr k) [.c (.own l n), .c (.s (.int kk i))]) = iadrOO (m l) n k i := by
  by_cases h : iadrOO (m l) n k i
  · simp [okO, iadr_run h, h]
  · have hn : ¬ ∃ v, run Γ d m (.iadr k) [.c (.own l n), .c (.s (.int kk i))] = some (v, []) := by
      rintro ⟨v, hv⟩
      apply h
      simp only [run, runIadr] at hv
      by_cases hl : lenOO (m l) n
      · obtain ⟨k2, rows2, h1, h2, h3⟩ := own_of hl
        rw [h1] at hv
        simp only at hv
        split at hv
        · rename_i hc
          unfold iadrOO; rw [h2]; exact ⟨hc.1, h3, hc.2⟩
        · cases hv
      · rw [own_not hl] at hv; cases hv
    simp [okO, hn, h]
theorem v_iadrP {n k l o : Nat} {kk : IntKind} {i : Int} (h : 0 ≤ i ∧ i < n) : runV m (.iadrP n k) [.c (.ptr l o), .c (.s (.int kk i))] = .c (.ptr l (o + i.toNat * k)) := by
  simp only [runV, run, runIadrP, if_pos h, valO]
theorem ok_iadrP {n k l o : Nat} {kk : IntKind} {i : Int} : okO (run Γ d m (.iadrP n k) [.c (.ptr l o), .c (.s (.int kk i))]) = (0 ≤ i ∧ i < n) := by
  by_cases h : 0 ≤ i ∧ i < n <;> simp [okO, run, runIadrP, h]
/-- Loads. -/
def loadV (o : Option Obj) (n : Nat) (agg : Bool) (off : Nat) : Option V := match o with
  | some (.box cells) => takeV n agg (cells.drop off)
  | some (.sbox cells) => takeV n agg ((cells.drop off).map .s)
  | _ => none
theorem loadV_box {cells : List C} {n off : Nat} {agg : Bool} : loadV (some (.box cells)) n agg off = takeV n agg (cells.drop off) := nr rfl
theorem loadV_sbox {cells : List S} {n off : Nat} {agg : Bool} : loadV (some (.sbox cells)) n agg off = takeV n agg ((cells.drop off).map .s) := nr rfl
theorem load_runP {l off n : Nat} {agg : Bool} : run Γ d m (.load n agg) [.c (.ptr l off)] = (loadV (m l) n agg off).map fun v => (v, []) := by
  simp only [run, runLoad, loadV]
  cases m l with
  | none => rfl
  | some o => cases o <;> rfl
theorem v_loadP {l off n : Nat} {agg : Bool} : runV m (.load n agg) [.c (.ptr l off)] = (loadV (m l) n agg off).getD .junk := by
  simp only [runV, load_runP]
  cases loadV (m l) n agg off <;> rfl
theorem ok_loadP {l off n : Nat} {agg : Bool} : okO (run Γ d m (.load n agg) [.c (.ptr l off)]) = ((loadV (m l) n agg off).isSome = true) := by
  simp only [okO, load_runP]
  cases loadV (m l) n agg off <;> simp
theorem v_loadC {n : Nat} {agg : Bool} {cells : List S} : runV m (.load n agg) [.c (.s (.cref cells))] = (takeV n agg (cells.map .s)).getD .junk := by
  simp only [runV, run, runLoad]
  cases takeV n agg (cells.map .s) <;> rfl
theorem ok_loadC {n : Nat} {agg : Bool} {cells : List S} : okO (run Γ d m (.load n agg) [.c (.s (.cref cells))]) = ((takeV n agg (cells.map .s)).isSome = true) := by
  simp only [okO, run, runLoad]
  cases takeV n agg (cells.map .s) <;> simp
def loadR (o : Option Obj) (len i off n : Nat) (agg : Bool) : Option V := match rowOf o with
  | some (_, rows) => if len = rows.length then takeV n agg (((rows.getD i []).drop off).map .s) else none
  | none => none
theorem loadR_row {k len i off n : Nat} {agg : Bool} {rows : List (List S)} : loadR (some (.row k rows)) len i off n agg = if len = rows.length then takeV n agg (((rows.getD i []).drop off).map .s) else none := nr rfl
theorem loadR_srow {k len i off n : Nat} {agg : Bool} {rows : List (List S)} : loadR (some (.srow k rows)) len i off n agg = if len = rows.length then takeV n agg (((rows.getD i []).drop off).map .s) else none := nr rfl
theorem load_runO {l len i off n : Nat} {agg : Bool} : run Γ d m (.load n agg) [.c (.optr l len i off)] = (loadR (m l) len i off n agg).map fun v => (v, []) := by
  simp only [run, runLoad, loadR]
  by_cases h : lenOO (m l) len
  · obtain ⟨k, rows, h1, h2, h3⟩ := own_of h
    rw [h1, h2]
    simp only [if_pos h3]
  · rw [own_not h]
    cases e : rowOf (m l) with
    | none => rfl
    | some p =>
      obtain ⟨k, rows⟩ := p
      have : ¬ len = rows.length := fun hh => h (by unfold lenOO; rw [e]; exact hh)
      simp only [if_neg this]; rfl
theorem v_loadO {l len i off n : Nat} {agg : Bool} : runV m (.load n agg) [.c (.optr l len i off)] = (loadR (m l) len i off n agg).getD .junk := by
  simp only [runV, load_runO]
  cases loadR (m l) len i off n agg <;> rfl
theorem ok_loadO {l len i off n : Nat} {agg : Bool} : okO (run Γ d m (.load n agg) [.c (.optr l len i off)]) = ((loadR (m l) len i off n agg).isSome = true) := by
  simp only [okO, load_runO]
  cases loadR (m l) len i off n agg <;> simp
theorem v_build {z : List S} {at_ : List (Nat × Nat)} {vals : List V} : runV m (.build z at_) vals = ((layParts (z.map .s) at_ vals).map .agg).getD .junk := by
  simp only [runV, run, runBuild]
  cases layParts (z.map .s) at_ vals <;> rfl
theorem ok_build {z : List S} {at_ : List (Nat × Nat)} {vals : List V} : okO (run Γ d m (.build z at_) vals) = ((layParts (z.map .s) at_ vals).isSome = true) := by
  simp only [okO, run, runBuild]
  cases layParts (z.map .s) at_ vals <;> simp
theorem v_nilP {l o : Nat} : runV m .nilchk [.c (.ptr l o)] = .c (.ptr l o) := nr rfl
theorem ok_nilP {l o : Nat} : okO (run Γ d m .nilchk [.c (.ptr l o)]) = True := by simp [okO, run, runNilchk]
theorem v_nilC {cells : List S} : runV m .nilchk [.c (.s (.cref cells))] = .c (.s (.cref cells)) := nr rfl
theorem ok_nilC {cells : List S} : okO (run Γ d m .nilchk [.c (.s (.cref cells))]) = True := by simp [okO, run, runNilchk]
theorem v_max {k k' : IntKind} {a b : Int} : runV m (.mnx true) [.c (.s (.int k a)), .c (.s (.int k' b))] = .c (.s (.int k (max a b))) := nr rfl
theorem v_min {k k' : IntKind} {a b : Int} : runV m (.mnx false) [.c (.s (.int k a)), .c (.s (.int k' b))] = .c (.s (.int k (min a b))) := nr rfl
theorem ok_mnx {k k' : IntKind} {a b : Int} {x : Bool} : okO (run Γ d m (.mnx x) [.c (.s (.int k a)), .c (.s (.int k' b))]) = True := by simp [okO, run, runMnx]
theorem v_isNilE {k : Nat} {neg f : Bool} : runV m (.isNil neg) [.c (.s (.list k [] f))] = .tf := by simp [runV, run, runNil, valO]
theorem v_isNilN {k : Nat} {neg f : Bool} {rows : List (List S)} (h : rows ≠ []) : runV m (.isNil neg) [.c (.s (.list k rows f))] = .c (.s (.bool neg)) := by simp [runV, run, runNil, valO, h]
theorem ok_isNil {k : Nat} {neg f : Bool} {rows : List (List S)} : okO (run Γ d m (.isNil neg) [.c (.s (.list k rows f))]) = True := by
  simp only [okO, run, runNil]; split <;> simp
end

/-! ### Kinds -/
section
theorem pk1 : pureK .mv = true := nr rfl
theorem pk2 : pureK .pick = true := nr rfl
theorem pk3 : pureK .not = true := nr rfl
theorem pk4 {x : BinOp} : pureK (.bin x) = true := nr rfl
theorem pk5 {x : Bool} {y : List Nat} : pureK (.eqA x y) = true := nr rfl
theorem pk6 {x : Bool} : pureK (.eqB x) = true := nr rfl
theorem pk7 {x : Bool} : pureK (.len x) = true := nr rfl
theorem pk8 {x : Bool} : pureK (.isNil x) = true := nr rfl
theorem pk9 {x : IntKind} : pureK (.conv x) = true := nr rfl
theorem pk10 : pureK .same = true := nr rfl
theorem pk11 : pureK .toStr = true := nr rfl
theorem pk12 : pureK .idx = true := nr rfl
theorem pk13 {x y : Nat} {z : Bool} : pureK (.fld x y z) = true := nr rfl
theorem pk14 {x : Nat} : pureK (.ext x) = true := nr rfl
theorem pk15 {x y : Bool} : pureK (.slcS x y) = true := nr rfl
theorem pk16 {k : Nat} {x y z : Bool} : pureK (.slcL k x y z) = true := nr rfl
theorem pk17 {x : Nat} : pureK (.fadr x) = true := nr rfl
theorem pk18 {x : Nat} : pureK (.iadr x) = true := nr rfl
theorem pk19 {x y : Nat} : pureK (.iadrP x y) = true := nr rfl
theorem pk20 {x : Nat} {y : Bool} : pureK (.load x y) = true := nr rfl
theorem pk21 {x : List S} {y : List (Nat × Nat)} : pureK (.build x y) = true := nr rfl
theorem pk22 : pureK .nilchk = true := nr rfl
theorem pk23 {x : Bool} : pureK (.mnx x) = true := nr rfl
theorem mk1 {x : List S} : memK (.alloc x) = true := nr rfl
theorem mk2 {x : TypeId × TypeId} : memK (.allocB x) = true := nr rfl
theorem mk3 {x : Nat} : memK (.box x) = true := nr rfl
theorem mk4 {x : Nat} {y : Bool} : memK (.store x y) = true := nr rfl
theorem mk5 {x y : Nat} {z : List S} {u : List Nat} : memK (.bslice x y z u) = true := nr rfl
theorem mk6 {x : Bool} {y z : Nat} : memK (.append x y z) = true := nr rfl
theorem mk7 {x : FuncId} : memK (.mkfn x) = true := nr rfl
theorem mk8 : memK .callv = true := nr rfl
theorem mk9 {x : FuncId} {y : TypeId × TypeId} : memK (.bldByte x y) = true := nr rfl
theorem mk10 {x : FuncId} {y : TypeId × TypeId} : memK (.bldStr x y) = true := nr rfl
theorem mk11 {x : FuncId} {y : TypeId × TypeId} : memK (.bldGet x y) = true := nr rfl
end
theorem addT_none {gt : Bool} {x : List Nat} : addT none gt x = none := nr rfl
theorem addT_some {gt : Bool} {x : List Nat} {l : List (List Nat)} : addT (some l) gt x = some (l ++ [if gt = true then x else []]) := nr rfl
theorem tOk_some {l : List (List Nat)} {ps : List (Nat × Nat)} : tOk (some l) ps = (pairsOk l ps = true) := nr rfl
theorem memOf_nil {j : Nat} : memOf [] j = none := nr rfl
theorem memOf_cons {i j : Nat} {o : Obj} {r : List (Nat × Obj)} : memOf ((i, o) :: r) j = if j = i then some o else memOf r j := nr rfl
theorem envOf_nil {j : Nat} : envOf [] j = .junk := nr rfl
theorem envOf_cons {i j : Nat} {o : V} {r : List (Nat × V)} : envOf ((i, o) :: r) j = if j = i then o else envOf r j := nr rfl

/-! ### What a body hands back -/
section
variable {m : Nat → Option Obj} {st : AS}
def leafT (m : Nat → Option Obj) (vs : List V) (ps : List (C ⊕ List C)) : Prop := outTs m vs ps
def leafF (m : Nat → Option Obj) (x : V) (k : Nat) (rows : List (List S)) : Prop := outR m [x] (.fresh k rows)
theorem post_t1 {t : Nat} {y : V} : postQ [.tmp t] (.v y) .ret st = leaf1 st.mem (st.env t) y := post_ret1
theorem post_f1 {t k : Nat} {rows : List (List S)} : postQ [.tmp t] (.fresh k rows) .ret st = leafF st.mem (st.env t) k rows := by
  apply propext
  simp only [postQ, resVals]
  constructor
  · rintro ⟨vs, hvs, ho⟩
    simp only [Option.some.injEq] at hvs; subst hvs
    exact ho
  · intro h
    exact ⟨_, rfl, h⟩
theorem post_t2 {t u : Nat} {ps : List (C ⊕ List C)} : postQ [.tmp t, .tmp u] (.v (.tup ps)) .ret st = leafT st.mem [st.env t, st.env u] ps := post_ret2
theorem post_t3 {t u v : Nat} {ps : List (C ⊕ List C)} : postQ [.tmp t, .tmp u, .tmp v] (.v (.tup ps)) .ret st = leafT st.mem [st.env t, st.env u, st.env v] ps := by
  apply propext
  simp only [postQ, resVals]
  constructor
  · rintro ⟨vs, hvs, ho⟩
    simp only [Option.some.injEq] at hvs; subst hvs
    simpa [outR, leafT] using ho
  · intro h
    exact ⟨_, rfl, by simpa [outR, leafT] using h⟩
/-- A result that lies in a variable. -/
def cellR (m : Nat → Option Obj) (x : V) (n : Nat) (agg : Bool) : Option V := (runLoad n agg m [x]).map (·.1)
theorem cellR_ptr {l o n : Nat} {agg : Bool} : cellR m (.c (.ptr l o)) n agg = loadV (m l) n agg o := by
  have h := load_runP (Γ := fun _ _ => none) (m := m) (d := 0) (l := l) (off := o) (n := n) (agg := agg)
  simp only [run] at h
  rw [cellR, h]
  cases loadV (m l) n agg o <;> rfl
def leafO (o : Option V) (F : V → Prop) : Prop := match o with
  | some v => F v
  | none => False
theorem leafO_some {v : V} {F : V → Prop} : leafO (some v) F = F v := nr rfl
theorem leafO_congr {o o' : Option V} {F : V → Prop} (h : o = o') : leafO o F = leafO o' F := by rw [h]
attribute [congr] leafO_congr
theorem post_c1 {a n : Nat} {agg : Bool} {y : V} : postQ [.cell a n agg] (.v y) .ret st = leafO (cellR st.mem (st.env a) n agg) fun v => leaf1 st.mem v y := by
  apply propext
  simp only [postQ, resVals, cellR, leafO]
  cases runLoad n agg st.mem [st.env a] with
  | none => simp
  | some p =>
    simp only [Option.map_some]
    constructor
    · rintro ⟨vs, hvs, ho⟩
      simp only [Option.some.injEq] at hvs; subst hvs
      simpa [outR, leaf1] using ho
    · intro h
      exact ⟨_, rfl, by simpa [outR, leaf1] using h⟩
theorem post_c2 {a n t : Nat} {agg : Bool} {ps : List (C ⊕ List C)} : postQ [.cell a n agg, .tmp t] (.v (.tup ps)) .ret st = leafO (cellR st.mem (st.env a) n agg) fun v => leafT st.mem [v, st.env t] ps := by
  apply propext
  simp only [postQ, resVals, cellR, leafO]
  cases runLoad n agg st.mem [st.env a] with
  | none => simp
  | some p =>
    simp only [Option.map_some]
    constructor
    · rintro ⟨vs, hvs, ho⟩
      simp only [Option.some.injEq] at hvs; subst hvs
      simpa [outR, leafT] using ho
    · intro h
      exact ⟨_, rfl, by simpa [outR, leafT] using h⟩
theorem post_c3 {a n t u : Nat} {agg : Bool} {ps : List (C ⊕ List C)} : postQ [.cell a n agg, .tmp t, .tmp u] (.v (.tup ps)) .ret st = leafO (cellR st.mem (st.env a) n agg) fun v => leafT st.mem [v, st.env t, st.env u] ps := by
  apply propext
  simp only [postQ, resVals, cellR, leafO]
  cases runLoad n agg st.mem [st.env a] with
  | none => simp
  | some p =>
    simp only [Option.map_some]
    constructor
    · rintro ⟨vs, hvs, ho⟩
      simp only [Option.some.injEq] at hvs; subst hvs
      simpa [outR, leafT] using ho
    · intro h
      exact ⟨_, rfl, by simpa [outR, leafT] using h⟩
def leafS (m : Nat → Option Obj) (x : C) (y : S) : Prop := outS m x y
def leafCs (m : Nat → Option Obj) (xs ys : List C) : Prop := outCs m xs ys
theorem leafT_nil : leafT m [] [] = True := nr rfl
theorem leafT_c {x : C} {y : S} {r : List V} {ps : List (C ⊕ List C)} : leafT m (.c x :: r) (.inl (.s y) :: ps) = (leafS m x y ∧ leafT m r ps) := nr rfl
theorem leafT_a {xs ys : List C} {r : List V} {ps : List (C ⊕ List C)} : leafT m (.agg xs :: r) (.inr ys :: ps) = (leafCs m xs ys ∧ leafT m r ps) := nr rfl
theorem leaf1_c {x : C} {y : S} : leaf1 m (.c x) (.c (.s y)) = leafS m x y := by
  cases x <;> rfl
theorem leaf1_a {xs ys : List C} : leaf1 m (.agg xs) (.agg ys) = leafCs m xs ys := nr rfl
theorem leaf1_tftf : leaf1 m .tf .tf = True := nr rfl
theorem leafCs_nil : leafCs m [] [] = True := nr rfl
theorem leafCs_cons {x : C} {y : S} {xs ys : List C} : leafCs m (x :: xs) (.s y :: ys) = (leafS m x y ∧ leafCs m xs ys) := nr rfl
theorem leafS_s {x y : S} : leafS m (.s x) y = Sle x y := nr rfl
def rowIs (o : Option Obj) (n k : Nat) (rows : List (List S)) : Prop := match rowOf o with
  | some (k', rows') => k' = k ∧ rows' = rows ∧ n = rows'.length
  | none => False
theorem rowIs_row {k' k n : Nat} {rows' rows : List (List S)} : rowIs (some (.row k' rows')) n k rows = (k' = k ∧ rows' = rows ∧ n = rows'.length) := nr rfl
theorem rowIs_srow {k' k n : Nat} {rows' rows : List (List S)} : rowIs (some (.srow k' rows')) n k rows = (k' = k ∧ rows' = rows ∧ n = rows'.length) := nr rfl
theorem leafS_own {l n k : Nat} {rows : List (List S)} : leafS m (.own l n) (.list k rows false) = rowIs (m l) n k rows := by
  apply propext
  simp only [leafS, outS, rowIs]
  constructor
  · rintro ⟨k', rows', h1, h2, h3⟩
    simp only [S.list.injEq, and_true] at h3
    obtain ⟨rfl, rfl⟩ := h3
    rw [h1]; exact ⟨rfl, rfl, h2⟩
  · intro h
    split at h
    · rename_i k' rows' e
      obtain ⟨rfl, rfl, h⟩ := h
      exact ⟨_, _, e, h, rfl⟩
    · exact h.elim
theorem Sle_list {k : Nat} {rows rows' : List (List S)} {f : Bool} : Sle (.list k rows f) (.list k rows' false) = (rows = rows') := by
  apply propext
  constructor
  · rintro (h | ⟨k1, k2, f1, f2, h1, h2, _⟩ | ⟨k1, r1, f1, h1, h2⟩)
    · simp only [S.list.injEq] at h; exact h.2.1
    · simp only [S.list.injEq] at h1 h2; rw [h1.2.1, h2.2.1]
    · simp only [S.list.injEq] at h1 h2; rw [h1.2.1, h2.2.1]
  · rintro rfl
    exact .inr (.inr ⟨k, rows, f, rfl, rfl⟩)
theorem Sle_nil {k k' : Nat} {rows' : List (List S)} {f : Bool} : Sle (.list k [] f) (.list k' rows' false) = (rows' = []) := by
  apply propext
  constructor
  · rintro (h | ⟨k1, k2, f1, f2, h1, h2, _⟩ | ⟨k1, r1, f1, h1, h2⟩)
    · simp only [S.list.injEq] at h; exact h.2.1.symm
    · simp only [S.list.injEq] at h2; exact h2.2.1
    · simp only [S.list.injEq] at h1 h2; rw [h2.2.1, ← h1.2.1]
  · rintro rfl
    exact .inr (.inl ⟨k, k', f, false, rfl, rfl, by simp⟩)
def rowFr (o : Option Obj) (n k : Nat) (rows : List (List S)) : Prop := match o with
  | some (.row k' rows') => k' = k ∧ rows' = rows ∧ n = rows.length
  | _ => False
theorem rowFr_row {k' k n : Nat} {rows' rows : List (List S)} : rowFr (some (.row k' rows')) n k rows = (k' = k ∧ rows' = rows ∧ n = rows.length) := nr rfl
theorem leafF_own {l n k : Nat} {rows : List (List S)} : leafF m (.c (.own l n)) k rows = rowFr (m l) n k rows := by
  apply propext
  simp only [leafF, outR, rowFr]
  constructor
  · rintro ⟨h1, h2⟩; rw [h1]; exact ⟨rfl, rfl, h2⟩
  · intro h
    split at h
    · rename_i e; obtain ⟨rfl, rfl, h⟩ := h; exact ⟨e, h⟩
    · exact h.elim
theorem leafF_nil {k k' : Nat} {r rows : List (List S)} {f : Bool} : leafF m (.c (.s (.list k' r f))) k rows = (f = true ∧ r = [] ∧ rows = []) := nr rfl
end

/-! ### Arguments -/
section
variable {m : Nat → Option Obj}
def consA (x : Option V) (r : Option (List V)) : Option (List V) := match x, r with
  | some y, some ys => some (y :: ys)
  | _, _ => none
def consC (x : Option C) (r : Option (List C)) : Option (List C) := match x, r with
  | some y, some ys => some (y :: ys)
  | _, _ => none
theorem arg_nil : argVs m [] = some [] := nr rfl
theorem arg_cons {x : V} {r : List V} : argVs m (x :: r) = consA (argV m x) (argVs m r) := nr rfl
theorem consA_some {x : V} {r : List V} : consA (some x) (some r) = some (x :: r) := nr rfl
theorem consC_some {x : C} {r : List C} : consC (some x) (some r) = some (x :: r) := nr rfl
theorem arg_c {x : C} : argV m (.c x) = (argC m x).map .c := nr rfl
theorem arg_a {xs : List C} : argV m (.agg xs) = (argCs m xs).map .agg := nr rfl
theorem argC_s {x : S} : argC m (.s x) = some (.s x) := nr rfl
theorem argCs_nil : argCs m [] = some [] := nr rfl
theorem argCs_cons {x : C} {r : List C} : argCs m (x :: r) = consC (argC m x) (argCs m r) := nr rfl
def ownA (o : Option Obj) (n : Nat) : Option C := match rowOf o with
  | some (k, rows) => if n = rows.length then some (.s (.list k rows false)) else none
  | none => none
theorem ownA_row {k n : Nat} {rows : List (List S)} : ownA (some (.row k rows)) n = if n = rows.length then some (.s (.list k rows false)) else none := nr rfl
theorem ownA_srow {k n : Nat} {rows : List (List S)} : ownA (some (.srow k rows)) n = if n = rows.length then some (.s (.list k rows false)) else none := nr rfl
theorem argC_own {l n : Nat} : argC m (.own l n) = ownA (m l) n := by
  simp only [argC, ownA]
  by_cases h : lenOO (m l) n
  · obtain ⟨k, rows, h1, h2, h3⟩ := own_of h
    rw [h1, h2]
    simp only [if_pos h3, Option.map_some]
  · rw [own_not h]
    cases e : rowOf (m l) with
    | none => rfl
    | some p =>
      obtain ⟨k, rows⟩ := p
      have : ¬ n = rows.length := fun hh => h (by unfold lenOO; rw [e]; exact hh)
      simp only [if_neg this]; rfl
def boxA (o : Option Obj) (i : Nat) : Option C := match o with
  | some (.sbox cells) => some (.s (.cref (cells.drop i)))
  | _ => none
theorem boxA_sbox {cells : List S} {i : Nat} : boxA (some (.sbox cells)) i = some (.s (.cref (cells.drop i))) := nr rfl
theorem argC_ptr {l i : Nat} : argC m (.ptr l i) = boxA (m l) i := nr rfl
theorem loc_c {x : C} : locV (.c x) = locC x := nr rfl
theorem loc_a {xs : List C} : locV (.agg xs) = xs.flatMap locC := nr rfl
theorem loc_s {x : S} : locC (.s x) = [] := nr rfl
theorem loc_own {l n : Nat} : locC (.own l n) = [l] := nr rfl
theorem loc_ptr {l n : Nat} : locC (.ptr l n) = [l] := nr rfl
theorem loc_optr {l n i o : Nat} : locC (.optr l n i o) = [l] := nr rfl
theorem sealW_nil {v : V} : sealW m [] v = m := nr rfl
theorem sealW_refl {ls : List Nat} {v : V} (h : v.refless = true) : sealW m ls v = m := by simp [sealW, h]
theorem sealW_not {l : Nat} {ls : List Nat} {v : V} (h : v.refless = false) : sealW m (l :: ls) v = setAll m (sealL m (l :: ls)) := by simp [sealW, h]
def sealO (o : Option Obj) (l : Nat) (r : List (Nat × Obj)) : List (Nat × Obj) := match o with
  | some (.row k rows) => (l, .srow k rows) :: r
  | _ => r
theorem sealL_nil : sealL m [] = [] := nr rfl
theorem sealL_cons {l : Nat} {ls : List Nat} : sealL m (l :: ls) = sealO (m l) l (sealL m ls) := by
  simp only [sealL, sealO]
  split <;> simp_all
theorem sealO_row {k l : Nat} {rows : List (List S)} {r : List (Nat × Obj)} : sealO (some (.row k rows)) l r = (l, .srow k rows) :: r := nr rfl
theorem sealO_srow {k l : Nat} {rows : List (List S)} {r : List (Nat × Obj)} : sealO (some (.srow k rows)) l r = r := nr rfl
theorem sealO_box {cells : List C} {l : Nat} {r : List (Nat × Obj)} : sealO (some (.box cells)) l r = r := nr rfl
theorem sealO_sbox {cells : List S} {l : Nat} {r : List (Nat × Obj)} : sealO (some (.sbox cells)) l r = r := nr rfl
theorem refl_c {x : S} : V.refless (.c (.s x)) = x.refless := nr rfl
theorem refl_bool {b : Bool} : S.refless (.bool b) = true := nr rfl
theorem refl_int {k : IntKind} {b : Int} : S.refless (.int k b) = true := nr rfl
theorem refl_str {b : List UInt8} : S.refless (.str b) = true := nr rfl
theorem refl_list {k : Nat} {rows : List (List S)} {f : Bool} : S.refless (.list k rows f) = false := nr rfl
theorem refl_tup {xs : List (C ⊕ List C)} : V.refless (.tup xs) = xs.all fun | .inl x => x.refless | .inr xs => xs.all (·.refless) := nr rfl
theorem refl_agg {xs : List C} : V.refless (.agg xs) = xs.all (·.refless) := nr rfl
theorem refl_C {x : S} : C.refless (.s x) = x.refless := nr rfl
end

/-! ### The set -/
attribute [go_sem ↓] vc_skip vc_exit vc_ret vc_seq vc_block vt_reg vt_regD_nil vc_cond thenQ_normal thenQ_exit thenQ_ret blockQ_normal blockQ_exit blockQ_ret
  gate_none gate_some gateWf_none gateWf_some exT_nil upd_lit ev_t ev_k putD_some putD_none setAll_nil setAll_cons args_nil args_cons addT_none post_t1 post_f1 post_t2 post_t3 post_c1 post_c2 post_c3 exT_pure exT_mem
attribute [go_sem] vt_regD addT_some tOk_some condV_bool condV_tf gOn_true gOn_false gOn_undef gOn_ifV gWf_bool gWf_undef gWf_ifV ifV_true ifV_false gP_tt gP_tf gP bindV_eq pureE_eq
  v_mv v_not v_pick pickV_true pickV_false pickV_and pickV_or v_lss v_leq v_gtr v_geq v_eql v_neq v_seql v_sneq v_add v_sub v_mul v_sadd v_lenS v_lenL v_idx v_slcL v_slcH v_slcB
  ok_mv ok_not ok_pick ok_lss ok_leq ok_gtr ok_geq ok_eql ok_neq ok_seql ok_sneq ok_add ok_sub ok_mul ok_sadd ok_lenS ok_lenL ok_idx ok_slcL ok_slcH ok_slcB
  kmin64 kmax64 kmin8 kmax8 bits64 bits8 v_quo v_rem ok_quo ok_rem v_andI v_orI ok_andI ok_orI v_shrI ok_shrI v_shlI ok_shlI v_sless v_sleq v_sgtr v_sgeq ok_sless ok_sleq ok_sgtr ok_sgeq
  v_eqB0 v_eqB1 ok_eqB v_eqA ok_eqA eqAV0 eqAV1 eqRow_nil eqRow_int eqRow_str eqRow_bool lenOO_row lenOO_srow v_lenO ok_lenO v_conv ok_conv wrap64_byte wrap8 v_same ok_same v_toStr ok_toStr
  v_fld ok_fld take_c take_a v_extx ok_ext extV_l extV_r v_slcLl ok_slcLl v_slcLh ok_slcLh v_slcLb ok_slcLb v_slcLx ok_slcLx v_fadrP ok_fadrP v_fadrC ok_fadrC v_fadrO ok_fadrO
  v_iadrL ok_iadrL iadrOO_row iadrOO_srow v_iadrO ok_iadrO v_iadrP ok_iadrP loadV_box loadV_sbox v_loadP ok_loadP v_loadC ok_loadC loadR_row loadR_srow v_loadO ok_loadO v_build ok_build
  v_nilP ok_nilP v_nilC ok_nilC v_max v_min ok_mnx v_isNilE v_isNilN ok_isNil
  exO_alloc exO_allocB exO_boxC exO_boxA storeO_box exO_store storeR_row exO_storeR appO_row appN_none exO_appO exO_appN rowsOf_list rowsOf_own rowsO_row rowsO_srow rowsOf_str bslO_none exO_bsl exO_bsl0
  lay_nil lay_cons layO_some cellsV_c cellsV_agg asS_nil asS_cons bldO_bld exO_bldStr bldB_bld exO_bldByte bldG_bld exO_bldGet mkO_some exO_mkfn cap_nil cap_s
  pk1 pk2 pk3 pk4 pk5 pk6 pk7 pk8 pk9 pk10 pk11 pk12 pk13 pk14 pk15 pk16 pk17 pk18 pk19 pk20 pk21 pk22 pk23 mk1 mk2 mk3 mk4 mk5 mk6 mk7 mk8 mk9 mk10 mk11
  memOf_nil memOf_cons envOf_nil envOf_cons cellR_ptr leafO_some leafT_nil leafT_c leafT_a leaf1_c leaf1_a leaf1_tf leaf1_tftf leafCs_nil leafCs_cons leafS_s rowIs_row rowIs_srow leafS_own Sle_list Sle_nil Sle_int Sle_bool Sle_str rowFr_row leafF_own leafF_nil
  arg_nil arg_cons consA_some consC_some arg_c arg_a argC_s argCs_nil argCs_cons ownA_row ownA_srow argC_own boxA_sbox argC_ptr loc_c loc_a loc_s loc_own loc_ptr loc_optr sealW_nil sealW_refl sealW_not sealL_nil sealL_cons sealO_row sealO_srow sealO_box sealO_sbox
  refl_c refl_bool refl_int refl_str refl_list refl_tup refl_agg refl_C
  bytesOf_row asBytes_nil asBytes_cons initS
  b_true_and b_and_true b_false_and b_true_or b_false_or b_not_true b_not_false
end Go.Ab
