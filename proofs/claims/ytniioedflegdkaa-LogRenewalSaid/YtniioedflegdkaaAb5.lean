/- The operations that leave memory alone. -/
import Derived.Test.YtniioedflegdkaaAb4
import Derived.WalkKit
import Derived.WalkLawsBesides
import Derived.WalkSpells
set_option linter.all false
namespace Go.Ab
open Go Go.RowKit

section
variable {im : Nat → Prop} {w : World} {β : Nat → BI} {m : Nat → Option Obj} {P : Program}

theorem str_eq (s : ByteArray) : (⟨⟨s.data.toList⟩⟩ : ByteArray) = s := by cases s; rfl

theorem ofCell_ok (v : Value) (hf : flat v = true) : RS im w (ofCell v) v := by
  unfold ofCell
  split
  · simp [RS]
  · simp [RS]
  · simp only [RS]
  · simp [RS]
  · simp [RS, RVals]
  · simp [RS, hf]

theorem ofCells_ok : ∀ (vs : List Value), vs.all flat = true → RCs im w β m (vs.map fun c => .s (ofCell c)) vs
  | [], _ => trivial
  | v :: vs, h => by
    simp only [List.all_cons, Bool.and_eq_true] at h
    exact ⟨ofCell_ok v h.1, ofCells_ok vs h.2⟩

theorem ofVal_ok (v : Value) : RV im w β m (ofVal v) v := by
  unfold ofVal
  split
  · rename_i cs
    split
    · rename_i h; exact ⟨cs, rfl, ofCells_ok _ h⟩
    · trivial
  · trivial
  · rename_i h1 h2
    refine ofCell_ok v ?_
    cases v <;> first | rfl | (exact absurd rfl (h1 _)) | (exact absurd rfl (h2 _))

theorem ev_ok {N : Nat} {w0 : W0} {st : AS} {a : Act} (h : Rel N w0 im β st a w) (x : Operand) : RV im w β st.mem (ev st.env (cO x)) (a.eval x) := by
  cases x with
  | tmp t => exact h.env t
  | const v => exact ofVal_ok v
  | global g => trivial
  | func f => exact ⟨#[], rfl, by simp [RVals]⟩

theorem RS.flat {x : S} {v : Value} (h : RS im w x v) : flat v = true := by
  cases x <;> simp only [RS] at h
  case bool => subst h; rfl
  case int => subst h; rfl
  case str => subst h; rfl
  case raw => exact h.1 ▸ h.2
  case list => obtain ⟨a, c, e, _⟩ := h; subst e; rfl
  case cref => obtain ⟨b, o, e, _⟩ := h; subst e; rfl
  case fn => obtain ⟨c, e, _⟩ := h; subst e; rfl

theorem RC.flat {x : C} {v : Value} (h : RC im w β m x v) : Ab.flat v = true := by
  cases x with
  | s x => exact RS.flat h
  | ptr l o => obtain ⟨_, b, _, e⟩ := h; subst e; rfl
  | own l n => obtain ⟨_, _, _, _, ⟨a, c, e⟩, _⟩ := h; subst e; rfl
  | optr l n i o => obtain ⟨_, _, _, _, ⟨p, e⟩, _⟩ := h; subst e; rfl

theorem cells_flat {v : Value} (h : flat v = true) : v.cells = #[v] := by cases v <;> first | rfl | (exact absurd h (by simp [flat]))

/-- The cells of a value. -/
theorem cellsV_ok {x : V} {v : Value} {ys : List C} (hx : RV im w β m x v) (hc : cellsV x = some ys) : RCs im w β m ys v.cells.toList := by
  cases x <;> simp only [cellsV, Option.some.injEq, reduceCtorEq] at hc
  case c x => subst hc; rw [cells_flat (RC.flat hx)]; exact ⟨hx, trivial⟩
  case agg xs => subst hc; obtain ⟨cs, e, h⟩ := hx; subst e; exact h

theorem RCs.length : ∀ {xs : List C} {vs : List Value}, RCs im w β m xs vs → xs.length = vs.length
  | [], [], _ => rfl
  | _ :: _, _ :: _, h => by simp [RCs.length h.2]
  | [], _ :: _, h => h.elim
  | _ :: _, [], h => h.elim

theorem RCs.drop : ∀ (n : Nat) {xs : List C} {vs : List Value}, RCs im w β m xs vs → RCs im w β m (xs.drop n) (vs.drop n)
  | 0, _, _, h => h
  | _ + 1, [], [], h => h
  | n + 1, _ :: _, _ :: _, h => by simpa using RCs.drop n h.2
  | _ + 1, [], _ :: _, h => h.elim
  | _ + 1, _ :: _, [], h => h.elim

theorem RCs.take : ∀ (n : Nat) {xs : List C} {vs : List Value}, RCs im w β m xs vs → RCs im w β m (xs.take n) (vs.take n)
  | 0, _, _, _ => trivial
  | _ + 1, [], [], h => h
  | n + 1, _ :: _, _ :: _, h => ⟨h.1, RCs.take n h.2⟩
  | _ + 1, [], _ :: _, h => h.elim
  | _ + 1, _ :: _, [], h => h.elim

theorem RCs.append : ∀ {xs ys : List C} {vs us : List Value}, RCs im w β m xs vs → RCs im w β m ys us → RCs im w β m (xs ++ ys) (vs ++ us)
  | [], _, [], _, _, h => h
  | _ :: _, _, _ :: _, _, h, h' => ⟨h.1, RCs.append h.2 h'⟩
  | [], _, _ :: _, _, h, _ => h.elim
  | _ :: _, _, [], _, h, _ => h.elim

theorem RCs.get : ∀ {xs : List C} {vs : List Value} (i : Nat) {x : C}, RCs im w β m xs vs → xs[i]? = some x → ∃ v, vs[i]? = some v ∧ RC im w β m x v
  | x :: xs, v :: vs, 0, y, h, e => by simp at e; subst e; exact ⟨v, rfl, h.1⟩
  | x :: xs, v :: vs, i + 1, y, h, e => by simpa using RCs.get i h.2 (by simpa using e)
  | [], [], _, _, _, e => by simp at e
  | [], _ :: _, _, _, h, _ => h.elim
  | _ :: _, [], _, _, h, _ => h.elim

theorem RCs.flats : ∀ {xs : List C} {vs : List Value}, RCs im w β m xs vs → vs.all Ab.flat = true
  | [], [], _ => rfl
  | _ :: _, _ :: _, h => by simp [RC.flat h.1, RCs.flats h.2]
  | [], _ :: _, h => h.elim
  | _ :: _, [], h => h.elim

theorem RVals.toCs : ∀ {xs : List S} {vs : List Value}, RVals im w xs vs → RCs im w β m (xs.map C.s) vs
  | [], [], _ => trivial
  | _ :: _, _ :: _, h => by simp only [RVals] at h; exact ⟨h.1, RVals.toCs h.2⟩
  | [], _ :: _, h => by simp [RVals] at h
  | _ :: _, [], h => by simp [RVals] at h

/-! ### Integers -/
theorem inK_iff {k : IntKind} {n : Int} : inK k n = true ↔ k.min ≤ n ∧ n ≤ k.max := by simp [inK]

theorem wrap_in {k : IntKind} {n : Int} (h : inK k n = true) : k.wrap n = n := by
  rw [inK_iff] at h
  obtain ⟨h1, h2⟩ := h
  cases k <;> simp only [IntKind.min, IntKind.max, IntKind.signed, IntKind.bits, if_true, Bool.false_eq_true, if_false] at h1 h2
  · exact IntWalk.i8_in n ⟨by omega, by omega⟩
  · exact IntWalk.i16_in n ⟨by omega, by omega⟩
  · exact IntWalk.i32_in n ⟨by omega, by omega⟩
  · exact IntWalk.i64_in n ⟨by omega, by omega⟩
  · exact IntWalk.u8_in n ⟨by omega, by omega⟩
  · exact IntWalk.u16_in n ⟨by omega, by omega⟩
  · exact IntWalk.u32_in n ⟨by omega, by omega⟩
  · exact IntWalk.u64_in n ⟨by omega, by omega⟩

theorem ofInt_toNat {n : Nat} {a : Int} (h0 : 0 ≤ a) (h1 : a < 2 ^ n) : (BitVec.ofInt n a).toNat = a.toNat := by
  rw [BitVec.toNat_ofInt]
  congr 1
  exact Int.emod_eq_of_lt h0 (by exact_mod_cast h1)

theorem lt_bits {k : IntKind} {a : Int} (h : inK k a = true) : a < 2 ^ k.bits := by
  rw [inK_iff] at h
  have h2 := h.2
  cases k <;> simp only [IntKind.max, IntKind.signed, IntKind.bits, if_true, Bool.false_eq_true, if_false] at * <;> omega

theorem and_in {k : IntKind} {a b : Int} (h0 : 0 ≤ a) (ha : inK k a = true) : inK k ((a.toNat &&& b.toNat : Nat) : Int) = true := by
  have := Nat.and_le_left (n := a.toNat) (m := b.toNat)
  rw [inK_iff] at *
  have hm : k.min ≤ 0 := by cases k <;> simp [IntKind.min, IntKind.signed, IntKind.bits]
  omega

theorem or_in {k : IntKind} {a b : Int} (ha0 : 0 ≤ a) (hb0 : 0 ≤ b) (ha : inK k a = true) (hb : inK k b = true) : inK k ((a.toNat ||| b.toNat : Nat) : Int) = true := by
  rw [inK_iff] at *
  have hm : k.min ≤ 0 := by cases k <;> simp [IntKind.min, IntKind.signed, IntKind.bits]
  refine ⟨by omega, ?_⟩
  have key : ∀ n : Nat, (a : Int) < 2 ^ n → (b : Int) < 2 ^ n → ((a.toNat ||| b.toNat : Nat) : Int) < 2 ^ n := fun n h1 h2 => by
    have e : ((2 ^ n : Nat) : Int) = (2 : Int) ^ n := by norm_cast
    have := Nat.or_lt_two_pow (x := a.toNat) (y := b.toNat) (n := n) (by omega) (by omega)
    omega
  cases k <;> simp only [IntKind.max, IntKind.signed, IntKind.bits, if_true, Bool.false_eq_true, if_false] at *
  · have := key 7 (by omega) (by omega); omega
  · have := key 15 (by omega) (by omega); omega
  · have := key 31 (by omega) (by omega); omega
  · have := key 63 (by omega) (by omega); omega
  · have := key 8 (by omega) (by omega); omega
  · have := key 16 (by omega) (by omega); omega
  · have := key 32 (by omega) (by omega); omega
  · have := key 64 (by omega) (by omega); omega

/-- The value of a scalar. -/
def valS : S → Value
  | .bool b => .bool b
  | .int k n => .int k n
  | .str s => .string ⟨⟨s⟩⟩
  | _ => .nilIface
def scal : S → Bool
  | .bool _ | .int .. | .str _ => true
  | _ => false
theorem valS_ok {x : S} (h : scal x = true) : RS im w x (valS x) := by cases x <;> first | (simp [RS, valS]; done) | (simp [scal] at h)
theorem RS.val {x : S} {v : Value} (h : scal x = true) (hx : RS im w x v) : v = valS x := by cases x <;> first | (simpa [RS, valS] using hx) | (simp [scal] at h)

theorem binI_ok {op : BinOp} {k : IntKind} {a b : Int} {r : S} (h : binI op k a b = some r) (t : TypeId) :
    (binOp op t (.int k a) (.int k b)).run P w = .ok (valS r) w ∧ scal r = true := by
  cases op <;> simp only [binI, Option.some.injEq, reduceCtorEq, Option.ite_none_right_eq_some] at h
  case add => obtain ⟨h, rfl⟩ := h; simp [binOp, Op.intArith, wrap_in h, valS, scal]
  case sub => obtain ⟨h, rfl⟩ := h; simp [binOp, Op.intArith, wrap_in h, valS, scal]
  case mul => obtain ⟨h, rfl⟩ := h; simp [binOp, Op.intArith, wrap_in h, valS, scal]
  case quo =>
    obtain ⟨⟨h0, h1, h2⟩, rfl⟩ := h
    have hb : ¬ b = 0 := by omega
    have hq : a.tdiv b = a / b := Int.tdiv_eq_ediv_of_nonneg h0
    have hin : inK k (a / b) = true := by
      rw [inK_iff] at *
      have := Int.ediv_le_self b h0
      have := Int.ediv_nonneg h0 (Int.le_of_lt h1)
      have hm : k.min ≤ 0 := by cases k <;> simp [IntKind.min, IntKind.signed, IntKind.bits]
      omega
    simp [binOp, Op.intDiv, hb, hq, wrap_in hin, valS, scal]
  case rem =>
    obtain ⟨⟨h0, h1⟩, rfl⟩ := h
    have hb : ¬ b = 0 := by omega
    simp [binOp, Op.intDiv, hb, Int.tmod_eq_emod_of_nonneg h0, valS, scal]
  case and =>
    obtain ⟨⟨h0, h1, h2, h3⟩, rfl⟩ := h
    have e := wrap_in (and_in (b := b) h0 h2)
    simp only [binOp, Op.intBits, ne_eq, not_true, if_false, Sem.run_pure, BitVec.toNat_and, ofInt_toNat h0 (lt_bits h2), ofInt_toNat h1 (lt_bits h3), e, valS, scal, and_self]
  case or =>
    obtain ⟨⟨h0, h1, h2, h3⟩, rfl⟩ := h
    have e := wrap_in (or_in h0 h1 h2 h3)
    simp only [binOp, Op.intBits, ne_eq, not_true, if_false, Sem.run_pure, BitVec.toNat_or, ofInt_toNat h0 (lt_bits h2), ofInt_toNat h1 (lt_bits h3), e, valS, scal, and_self]
  case eql => subst h; simp [binOp, Op.intCmp, valS, scal]
  case neq => subst h; simp [binOp, Op.intCmp, valS, scal]
  case lss => subst h; simp [binOp, Op.intCmp, valS, scal]
  case leq => subst h; simp [binOp, Op.intCmp, valS, scal]
  case gtr => subst h; simp [binOp, Op.intCmp, valS, scal]
  case geq => subst h; simp [binOp, Op.intCmp, valS, scal]

theorem toList_mk (a : List UInt8) : ByteArray.toList ⟨⟨a⟩⟩ = a := by
  rw [ByteArray.toList_eq]

theorem binS_ok {op : BinOp} {x y r : S} (h : binS op x y = some r) (t : TypeId) :
    scal x = true ∧ scal y = true ∧ scal r = true ∧ (binOp op t (valS x) (valS y)).run P w = .ok (valS r) w := by
  unfold binS at h
  split at h
  · rename_i k a k' y
    simp only [Option.ite_none_right_eq_some, Option.some.injEq] at h
    obtain ⟨⟨h0, h1, h2⟩, rfl⟩ := h
    have hn : ¬ y < 0 := by omega
    have hm : min y.toNat k.bits = y.toNat := by omega
    simp [binOp, Op.shift, hn, hm, valS, scal, wrap_in h2]
  · rename_i k a k' y
    simp only [Option.ite_none_right_eq_some, Option.some.injEq] at h
    obtain ⟨⟨h0, h1⟩, rfl⟩ := h
    have hn : ¬ y < 0 := by omega
    have hm : min y.toNat k.bits = y.toNat := by omega
    have hp : (0 : Int) ≤ 2 ^ y.toNat := Int.le_of_lt (Int.pow_pos (by decide))
    simp [binOp, Op.shift, hn, hm, valS, scal, Int.fdiv_eq_ediv_of_nonneg _ hp]
  · rename_i k a k' b h1 h2
    simp only [Option.ite_none_right_eq_some] at h
    obtain ⟨rfl, h⟩ := h
    obtain ⟨e1, e2⟩ := binI_ok (P := P) (w := w) h t
    exact ⟨rfl, rfl, e2, e1⟩
  · rename_i a b
    simp only [Option.ite_none_right_eq_some, Option.some.injEq] at h
    obtain ⟨h0, rfl⟩ := h
    have hs : ¬ (((⟨⟨a⟩⟩ : ByteArray).size + (⟨⟨b⟩⟩ : ByteArray).size : Nat) : Int) > IntKind.i64.max := by
      have e : IntKind.i64.max = 9223372036854775807 := by decide
      have e1 : (⟨⟨a⟩⟩ : ByteArray).size = a.length := rfl
      have e2 : (⟨⟨b⟩⟩ : ByteArray).size = b.length := rfl
      rw [e, e1, e2]; unfold maxInt at h0; omega
    refine ⟨rfl, rfl, rfl, ?_⟩
    simp only [binOp, valS, Op.stringOp, if_neg hs, Sem.run_pure]
    congr 2
  · simp only [Option.some.injEq] at h; subst h; refine ⟨rfl, rfl, rfl, ?_⟩; simp only [binOp, valS, Op.stringOp, toList_mk, Sem.run_pure]
  · simp only [Option.some.injEq] at h; subst h; refine ⟨rfl, rfl, rfl, ?_⟩; simp only [binOp, valS, Op.stringOp, toList_mk, Sem.run_pure]; rfl
  · simp only [Option.some.injEq] at h; subst h; refine ⟨rfl, rfl, rfl, ?_⟩; simp only [binOp, valS, Op.stringOp, toList_mk, Sem.run_pure]
  · simp only [Option.some.injEq] at h; subst h; refine ⟨rfl, rfl, rfl, ?_⟩; simp only [binOp, valS, Op.stringOp, toList_mk, Sem.run_pure]
  · simp only [Option.some.injEq] at h; subst h; refine ⟨rfl, rfl, rfl, ?_⟩; simp only [binOp, valS, Op.stringOp, toList_mk, Sem.run_pure]
  · simp only [Option.some.injEq] at h; subst h; refine ⟨rfl, rfl, rfl, ?_⟩; simp only [binOp, valS, Op.stringOp, toList_mk, Sem.run_pure]
  · cases h
end
end Go.Ab
