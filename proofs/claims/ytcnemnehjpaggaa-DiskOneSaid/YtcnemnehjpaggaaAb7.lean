/- Each quiet operation of the abstract machine, against the model's. -/
import Derived.Test.YtcnemnehjpaggaaAb6
set_option linter.all false
namespace Go.Ab
open Go Go.RowKit

section
variable {im : Nat → Prop} {w : World} {β : Nat → BI} {P : Program} {N : Nat} {w0 : W0} {st : AS} {a : Act} {v : V} {ups : List (Nat × Obj)}

/-- What is shown of a quiet operation. -/
def Shown (P : Program) (im : Nat → Prop) (w : World) (β : Nat → BI) (st : AS) (a : Act) (op : Op) (v : V) (ups : List (Nat × Obj)) : Prop :=
  ups = [] ∧ ∃ u, (∀ (o : Oper), o.op = op → Yld P a w o u) ∧ RV im w β st.mem v u

theorem mv_ok (h : Rel N w0 im β st a w) {x : Operand} (hr : runMv [ev st.env (cO x)] = some (v, ups)) : Shown P im w β st a (.move x) v ups ∧ Shown P im w β st a (.assign x) v ups := by
  simp only [runMv, Option.some.injEq, Prod.mk.injEq] at hr
  obtain ⟨rfl, rfl⟩ := hr
  exact ⟨⟨rfl, _, fun o ho => by simp [Yld, execOp, ho], ev_ok h x⟩, ⟨rfl, _, fun o ho => by simp [Yld, execOp, ho], ev_ok h x⟩⟩

theorem int_of {x : Operand} {k : IntKind} {n : Int} (h : Rel N w0 im β st a w) (e : ev st.env (cO x) = .c (.s (.int k n))) : a.eval x = .int k n := by
  have := ev_ok h x; rw [e] at this; simpa only [RV, RC, RS] using this
theorem bool_of {x : Operand} {b : Bool} (h : Rel N w0 im β st a w) (e : ev st.env (cO x) = .c (.s (.bool b))) : a.eval x = .bool b := by
  have := ev_ok h x; rw [e] at this; simpa only [RV, RC, RS] using this
theorem str_of {x : Operand} {s : List UInt8} (h : Rel N w0 im β st a w) (e : ev st.env (cO x) = .c (.s (.str s))) : a.eval x = .string ⟨⟨s⟩⟩ := by
  have := ev_ok h x; rw [e] at this; simpa only [RV, RC, RS] using this

theorem pick_ok (h : Rel N w0 im β st a w) {c x y : Operand} (hr : runPick [ev st.env (cO c), ev st.env (cO x), ev st.env (cO y)] = some (v, ups)) : Shown P im w β st a (.pick c x y) v ups := by
  unfold runPick at hr
  split at hr
  · rename_i t p q e
    simp only [List.cons.injEq, and_true] at e
    obtain ⟨e1, rfl, rfl⟩ := e
    have hc := bool_of h e1
    cases t
    · simp only [Bool.false_eq_true, if_false, Option.some.injEq, Prod.mk.injEq] at hr
      obtain ⟨rfl, rfl⟩ := hr
      exact ⟨rfl, _, fun o ho => by simp [Yld, execOp, ho, hc, asBool], ev_ok h y⟩
    · simp only [if_true, Option.some.injEq, Prod.mk.injEq] at hr
      obtain ⟨rfl, rfl⟩ := hr
      exact ⟨rfl, _, fun o ho => by simp [Yld, execOp, ho, hc, asBool], ev_ok h x⟩
  · cases hr

theorem not_ok (h : Rel N w0 im β st a w) {t : TypeId} {x : Operand} (hr : runNot [ev st.env (cO x)] = some (v, ups)) : Shown P im w β st a (.unOp .not t x) v ups := by
  unfold runNot at hr
  split at hr
  · rename_i b e
    simp only [List.cons.injEq, and_true] at e
    have hc := bool_of h e
    simp only [Option.some.injEq, Prod.mk.injEq] at hr
    obtain ⟨rfl, rfl⟩ := hr
    exact ⟨rfl, .bool (!b), fun o ho => by simp [Yld, execOp, ho, hc, Op.unary], by simp [RV, RC, RS]⟩
  · cases hr

theorem eqGuard_flat {op : BinOp} {t : TypeId} {x y : Operand} {u v : Value} (hu : ∀ xs, u ≠ .agg xs) (hn : u ≠ .nilIface) : (eqGuard op t x y u v).run P w = .ok () w := by
  cases u <;> first | exact absurd rfl (hu _) | exact absurd rfl hn | (cases op <;> cases v <;> simp [eqGuard])

theorem bin_ok (h : Rel N w0 im β st a w) {op : BinOp} {t t' : TypeId} {x y : Operand} (hr : runBin op [ev st.env (cO x), ev st.env (cO y)] = some (v, ups)) :
    Shown P im w β st a (.binOp op t x y t') v ups := by
  unfold runBin at hr
  split at hr
  · rename_i p q e
    simp only [List.cons.injEq, and_true] at e
    obtain ⟨e1, e2⟩ := e
    simp only [Option.map_eq_some_iff, Prod.mk.injEq] at hr
    obtain ⟨r, hr, rfl, rfl⟩ := hr
    obtain ⟨s1, s2, s3, hrun⟩ := binS_ok (P := P) (w := w) hr t
    have hx := ev_ok h x; rw [e1] at hx
    have hy := ev_ok h y; rw [e2] at hy
    have ex := RS.val s1 hx
    have ey := RS.val s2 hy
    refine ⟨rfl, valS r, fun o ho => ?_, valS_ok s3⟩
    have hg : (eqGuard op t x y (valS p) (valS q)).run P w = .ok () w := by
      refine eqGuard_flat (fun xs => ?_) ?_ <;> cases p <;> simp [valS, scal] at s1 ⊢
    simp only [Yld, execOp, ho, Sem.run_bind, hg, Result.andThen_ok, ex, ey, hrun, Sem.run_pure]
  · cases hr

theorem eqB_ok (h : Rel N w0 im β st a w) {t t' : TypeId} {x y : Operand} {neg : Bool} (ht : P.underlying t = some .bool) (hr : runEqB neg [ev st.env (cO x), ev st.env (cO y)] = some (v, ups)) :
    Shown P im w β st a (.binOp (if neg then .neq else .eql) t x y t') v ups := by
  unfold runEqB at hr
  split at hr
  · rename_i p q e
    simp only [List.cons.injEq, and_true] at e
    obtain ⟨e1, e2⟩ := e
    simp only [Option.some.injEq, Prod.mk.injEq] at hr
    obtain ⟨rfl, rfl⟩ := hr
    have ex := bool_of h e1
    have ey := bool_of h e2
    refine ⟨rfl, .bool ((p == q) != neg), fun o ho => ?_, by simp [RV, RC, RS]⟩
    have hg : ∀ op, (eqGuard op t x y (.bool p) (.bool q)).run P w = .ok () w := fun op => eqGuard_flat (fun xs => by simp) (by simp)
    cases neg
    · simp only [Yld, execOp, ho, Bool.false_eq_true, if_false, Sem.run_bind, hg, Result.andThen_ok, ex, ey, run_eql_bool w t p q ht, Sem.run_pure]; simp
    · simp only [Yld, execOp, ho, if_true, Sem.run_bind, hg, Result.andThen_ok, ex, ey, run_neq_bool w t p q ht, Sem.run_pure]; simp
  · cases hr

theorem eqA_ok (h : Rel N w0 im β st a w) {t t' : TypeId} {x y : Operand} {neg : Bool} {ts : List Nat} (ht : scalarT P 20 t = some ts) (hag : isAggT P t = true) (hgt : P.eqGuardType P.depth t = false)
    (hr : runEqA neg ts [ev st.env (cO x), ev st.env (cO y)] = some (v, ups)) : Shown P im w β st a (.binOp (if neg then .neq else .eql) t x y t') v ups := by
  unfold runEqA at hr
  split at hr
  · rename_i xs ys e
    simp only [List.cons.injEq, and_true] at e
    obtain ⟨e1, e2⟩ := e
    simp only [Option.map_eq_some_iff, Prod.mk.injEq] at hr
    obtain ⟨r, hr, rfl, rfl⟩ := hr
    have hx := ev_ok h x; rw [e1] at hx
    have hy := ev_ok h y; rw [e2] at hy
    obtain ⟨cs, ex, hx⟩ := hx
    obtain ⟨ds, ey, hy⟩ := hy
    have he := equal_ok (P := P) 20 t ts 10000 ht (by omega) xs ys _ _ r hx hy hr
    rw [hag] at he
    have he' : (Op.equalIn 10000 t (.agg cs) (.agg ds)).run P w = .ok r w := by simpa [overCells] using he
    refine ⟨rfl, .bool (r != neg), fun o ho => ?_, by simp [RV, RC, RS]⟩
    have hg : ∀ op, (eqGuard op t x y (.agg cs) (.agg ds)).run P w = .ok () w := fun op => run_eqGuard_agg w op t x y cs ds hgt
    cases neg
    · simp only [Yld, execOp, ho, Bool.false_eq_true, if_false, Sem.run_bind, hg, Result.andThen_ok, ex, ey, run_eql_struct, he', Sem.run_pure]; simp
    · simp only [Yld, execOp, ho, if_true, Sem.run_bind, hg, Result.andThen_ok, ex, ey, run_neq_struct, he', Sem.run_pure]; simp
  · cases hr

theorem nil_ok (h : Rel N w0 im β st a w) {t t' e : TypeId} {x y : Operand} {neg : Bool} (ht : P.underlying t = some (.slice e)) (hn : isNilK y = true)
    (hr : runNil neg [ev st.env (cO x)] = some (v, ups)) : Shown P im w β st a (.binOp (if neg then .neq else .eql) t x y t') v ups := by
  have ey : a.eval y = .slice none 0 0 := by
    unfold isNilK at hn
    split at hn
    · rfl
    · cases hn
  unfold runNil at hr
  split at hr
  · rename_i k rows full e1
    simp only [List.cons.injEq, and_true] at e1
    have hx := ev_ok h x; rw [e1] at hx
    simp only [RV, RC, RS] at hx
    obtain ⟨ad, cap, ex, h1, h2, h3⟩ := hx
    have hg : ∀ op, (eqGuard op t x y (.slice ad rows.length cap) (.slice none 0 0)).run P w = .ok () w := fun op => eqGuard_flat (fun xs => by simp) (by simp)
    have hY : ∀ (o : Oper), o.op = (.binOp (if neg then .neq else .eql) t x y t') → Yld P a w o (.bool (ad.isNone != neg)) := fun o ho => by
      cases neg
      · simp only [Yld, execOp, ho, Bool.false_eq_true, if_false, Sem.run_bind, hg, Result.andThen_ok, ex, ey, Lib.run_eql_slice_nil w t e ad _ _ _ _ ht, Sem.run_pure]; simp
      · simp only [Yld, execOp, ho, if_true, Sem.run_bind, hg, Result.andThen_ok, ex, ey, run_neq_slice_nil_any w t e ad _ _ _ _ ht, Sem.run_pure]; simp
    by_cases hrow : rows = []
    · simp only [hrow, if_true, Option.some.injEq, Prod.mk.injEq] at hr
      obtain ⟨rfl, rfl⟩ := hr
      exact ⟨rfl, _, hY, _, rfl⟩
    · simp only [hrow, if_false, Option.some.injEq, Prod.mk.injEq] at hr
      obtain ⟨rfl, rfl⟩ := hr
      obtain ⟨b, o, rfl, _⟩ := h3 hrow
      exact ⟨rfl, _, hY, by simp [RV, RC, RS]⟩
  · cases hr

theorem conv_ok (h : Rel N w0 im β st a w) {s d : TypeId} {x : Operand} {k k0 : IntKind} (hs : P.underlying s = some (.int k0)) (hd : P.underlying d = some (.int k))
    (hr : runConv k [ev st.env (cO x)] = some (v, ups)) : Shown P im w β st a (.convert s d x) v ups := by
  unfold runConv at hr
  split at hr
  · rename_i k1 n e
    simp only [List.cons.injEq, and_true] at e
    have ex := int_of h e
    have hY : ∀ (o : Oper), o.op = .convert s d x → Yld P a w o (.int k (k.wrap n)) := fun o ho => by
      simp [Yld, execOp, ho, ex, convert, run_underlying hs, run_underlying hd, Conv.intToInt]
    split at hr
    · rename_i hin
      simp only [Option.some.injEq, Prod.mk.injEq] at hr
      obtain ⟨rfl, rfl⟩ := hr
      exact ⟨rfl, _, hY, by simp [RV, RC, RS, wrap_in hin]⟩
    · simp only [Option.some.injEq, Prod.mk.injEq] at hr
      obtain ⟨rfl, rfl⟩ := hr
      exact ⟨rfl, _, hY, by simp [RV, RC, RS]⟩
  · cases hr

theorem same_ok (h : Rel N w0 im β st a w) {s d : TypeId} {x : Operand} (hs : P.underlying s = some .string) (hd : P.underlying d = some .string)
    (hr : runSame [ev st.env (cO x)] = some (v, ups)) : Shown P im w β st a (.convert s d x) v ups := by
  unfold runSame at hr
  split at hr
  · rename_i l e
    simp only [List.cons.injEq, and_true] at e
    have ex := str_of h e
    simp only [Option.some.injEq, Prod.mk.injEq] at hr
    obtain ⟨rfl, rfl⟩ := hr
    exact ⟨rfl, .string ⟨⟨l⟩⟩, fun o ho => by simp [Yld, execOp, ho, ex, convert, run_underlying hs, run_underlying hd], by simp [RV, RC, RS]⟩
  · cases hr

theorem idx_ok (h : Rel N w0 im β st a w) {t : TypeId} {x i : Operand} (ht : P.underlying t = some .string)
    (hr : runIdx [ev st.env (cO x), ev st.env (cO i)] = some (v, ups)) : Shown P im w β st a (.index t x i) v ups := by
  unfold runIdx at hr
  split at hr
  · rename_i l k n e
    simp only [List.cons.injEq, and_true] at e
    obtain ⟨e1, e2⟩ := e
    have ex := str_of h e1
    have ei := int_of h e2
    simp only [Option.ite_none_right_eq_some, Option.some.injEq, Prod.mk.injEq] at hr
    obtain ⟨⟨h0, h1⟩, rfl, rfl⟩ := hr
    have hlt : n.toNat < l.length := by omega
    have hg : (⟨⟨l⟩⟩ : ByteArray)[n.toNat]? = some l[n.toNat] := by
      rw [getElem?_pos (⟨⟨l⟩⟩ : ByteArray) n.toNat hlt]; rfl
    refine ⟨rfl, .int .u8 (l[n.toNat].toNat : Int), fun o ho => ?_, ?_⟩
    · simp [Yld, execOp, ho, ex, ei, Instr.index, asIntOf, run_underlying ht, h0, hg]
    · simp [RV, RC, RS, List.getD, hlt]
  · cases hr

theorem fld_ok (h : Rel N w0 im β st a w) {t : TypeId} {x : Operand} {i n : Nat} {fs : Array Field} {f : Field} {d : TypeDesc} (ht : P.underlying t = some (.struct fs)) (hf : fs[i]? = some f) (hn : sizeT P f.type = some n)
    (hu : P.underlying f.type = some d)
    (hr : runFld f.offset n (isAggT P f.type) [ev st.env (cO x)] = some (v, ups)) : Shown P im w β st a (.field t x i) v ups := by
  unfold runFld at hr
  split at hr
  · rename_i xs e
    simp only [List.cons.injEq, and_true] at e
    have hx := ev_ok h x; rw [e] at hx
    obtain ⟨cs, ex, hx⟩ := hx
    simp only [Option.map_eq_some_iff, Prod.mk.injEq] at hr
    obtain ⟨v', hr, rfl, rfl⟩ := hr
    obtain ⟨u, h1, h2⟩ := run_part hn hu hx hr
    exact ⟨rfl, u, fun o ho => by simp [Yld, execOp, ho, ex, Instr.field, run_underlying ht, hf, asAgg, h1], h2⟩
  · cases hr

theorem RTs.get : ∀ {xs : List (C ⊕ List C)} {vs : List Value} (i : Nat) {x : C ⊕ List C}, RTs im w β st.mem xs vs → xs[i]? = some x →
    ∃ u, vs[i]? = some u ∧ match x with
      | .inl x => RC im w β st.mem x u
      | .inr ys => ∃ cs : Array Value, u = .agg cs ∧ RCs im w β st.mem ys cs.toList
  | .inl y :: xs, v :: vs, 0, x, h, e => by simp at e; subst e; exact ⟨v, rfl, h.1⟩
  | .inr y :: xs, v :: vs, 0, x, h, e => by simp at e; subst e; exact ⟨v, rfl, h.1⟩
  | .inl y :: xs, v :: vs, i + 1, x, h, e => by simpa using RTs.get i h.2 (by simpa using e)
  | .inr y :: xs, v :: vs, i + 1, x, h, e => by simpa using RTs.get i h.2 (by simpa using e)
  | [], [], _, _, _, e => by simp at e
  | [], _ :: _, _, _, h, _ => h.elim
  | .inl _ :: _, [], _, _, h, _ => h.elim
  | .inr _ :: _, [], _, _, h, _ => h.elim

theorem ext_ok (h : Rel N w0 im β st a w) {x : Operand} {i : Nat} (hr : runExt i [ev st.env (cO x)] = some (v, ups)) : Shown P im w β st a (.extract x i) v ups := by
  unfold runExt at hr
  split at hr
  · rename_i xs e
    simp only [List.cons.injEq, and_true] at e
    have hx := ev_ok h x; rw [e] at hx
    obtain ⟨vs, ex, hx⟩ := hx
    split at hr
    · rename_i y ey
      simp only [Option.some.injEq, Prod.mk.injEq] at hr
      obtain ⟨rfl, rfl⟩ := hr
      obtain ⟨u, h1, h2⟩ := RTs.get i hx ey
      exact ⟨rfl, u, fun o ho => by simp [Yld, execOp, ho, ex, Instr.extract, show vs[i]? = some u by simpa using h1], h2⟩
    · rename_i y ey
      simp only [Option.some.injEq, Prod.mk.injEq] at hr
      obtain ⟨rfl, rfl⟩ := hr
      obtain ⟨u, h1, h2⟩ := RTs.get i hx ey
      exact ⟨rfl, u, fun o ho => by simp [Yld, execOp, ho, ex, Instr.extract, show vs[i]? = some u by simpa using h1], h2⟩
    · cases hr
  · cases hr

theorem nilchk_ok (h : Rel N w0 im β st a w) {x : Operand} (hr : runNilchk [ev st.env (cO x)] = some (v, ups)) : Shown P im w β st a (.nilCheck x) v ups := by
  unfold runNilchk at hr
  split at hr
  · rename_i l o e
    simp only [List.cons.injEq, and_true] at e
    have hx := ev_ok h x; rw [e] at hx
    simp only [Option.some.injEq, Prod.mk.injEq] at hr
    obtain ⟨rfl, rfl⟩ := hr
    obtain ⟨h1, b, h2, ex⟩ := hx
    exact ⟨rfl, _, fun o ho => by simp [Yld, execOp, ho, ex], h1, b, h2, rfl⟩
  · rename_i cells e
    simp only [List.cons.injEq, and_true] at e
    have hx := ev_ok h x; rw [e] at hx
    simp only [Option.some.injEq, Prod.mk.injEq] at hr
    obtain ⟨rfl, rfl⟩ := hr
    simp only [RV, RC, RS] at hx
    obtain ⟨b, o, ex, h2⟩ := hx
    exact ⟨rfl, .pointer (some ⟨b, o, none⟩), fun o ho => by simp [Yld, execOp, ho, ex], by simp only [RV, RC, RS]; exact ⟨b, o, rfl, h2⟩⟩
  · cases hr

theorem mnx_ok (h : Rel N w0 im β st a w) {x y : Operand} {ts : Array TypeId} {isMax : Bool} (hr : runMnx isMax [ev st.env (cO x), ev st.env (cO y)] = some (v, ups)) :
    Shown P im w β st a (.call { callee := .builtin (if isMax then .max else .min), args := #[x, y], argTypes := ts }) v ups := by
  unfold runMnx at hr
  split at hr
  · rename_i k n k' n' e
    simp only [List.cons.injEq, and_true] at e
    obtain ⟨e1, e2⟩ := e
    have ex := int_of h e1
    have ey := int_of h e2
    simp only [Option.some.injEq, Prod.mk.injEq] at hr
    obtain ⟨rfl, rfl⟩ := hr
    refine ⟨rfl, .int k (if isMax then max n n' else min n n'), fun o ho => ?_, by simp [RV, RC, RS]⟩
    cases isMax
    · have e : (if n' < n then n' else n) = min n n' := by omega
      simp [Yld, execOp, ho, ex, ey, resolve, invoke, builtin, Builtin.min_, Builtin.min2, e]
    · have e : (if n < n' then n' else n) = max n n' := by omega
      simp [Yld, execOp, ho, ex, ey, resolve, invoke, builtin, Builtin.max_, Builtin.max2, e]
  · cases hr

end
end Go.Ab
