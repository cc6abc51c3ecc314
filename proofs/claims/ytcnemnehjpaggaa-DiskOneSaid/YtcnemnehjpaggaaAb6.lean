/- The operations that leave memory alone, each against the machine's own. -/
import Derived.Test.YtcnemnehjpaggaaAb5
set_option linter.all false
namespace Go.Ab
open Go Go.RowKit

section
variable {im : Nat → Prop} {w : World} {β : Nat → BI} {m : Nat → Option Obj} {P : Program}

/-- The operation hands back u, and leaves the world. -/
def Yld (P : Program) (a : Act) (w : World) (o : Oper) (u : Value) : Prop := (execOp a.eval o).run P w = .ok (.value u) w

theorem info_of_size {t : TypeId} {n : Nat} (h : sizeT P t = some n) : ∃ i, P.info? t = some i ∧ i.size = n := by
  unfold sizeT at h
  cases hi : P.info? t with
  | none => simp [hi] at h
  | some i => exact ⟨i, rfl, by simpa [hi] using h⟩

theorem run_sizeOf {t : TypeId} {n : Nat} (h : sizeT P t = some n) : (sizeOf t).run P w = .ok n w := by
  obtain ⟨i, h1, h2⟩ := info_of_size h
  simp [sizeOf, typeInfo, h1, h2]

theorem run_isAgg {t : TypeId} {d : TypeDesc} (h : P.underlying t = some d) : (isAgg t).run P w = .ok (isAggT P t) w := by
  unfold isAgg isAggT
  rw [Sem.run_bind, run_underlying h w, h]
  cases d <;> simp

/-- A value of n cells out of a row. -/
theorem takeV_ok {n : Nat} {agg : Bool} {xs : List C} {vs : List Value} {v : V} (h : RCs im w β m xs vs) (ht : takeV n agg xs = some v) :
    (agg = true ∧ n ≤ vs.length ∧ RV im w β m v (.agg (vs.take n).toArray)) ∨ (agg = false ∧ ∃ u r, vs = u :: r ∧ RV im w β m v u) := by
  unfold takeV at ht
  cases agg with
  | true =>
    simp only [if_true, Option.ite_none_right_eq_some, Option.some.injEq] at ht
    obtain ⟨h1, rfl⟩ := ht
    refine .inl ⟨rfl, by rw [← RCs.length h]; exact h1, _, rfl, by simpa using RCs.take n h⟩
  | false =>
    simp only [Bool.false_eq_true, if_false] at ht
    cases xs with
    | nil => simp at ht
    | cons x r =>
      cases vs with
      | nil => exact h.elim
      | cons u r' =>
        simp only [Option.some.injEq] at ht; subst ht
        exact .inr ⟨rfl, u, r', rfl, h.1⟩

theorem run_part {t : TypeId} {n off : Nat} {xs : List C} {cs : Array Value} {v : V} {d : TypeDesc} (hn : sizeT P t = some n) (hu : P.underlying t = some d)
    (h : RCs im w β m xs cs.toList) (ht : takeV n (isAggT P t) (xs.drop off) = some v) :
    ∃ u, (part t cs off).run P w = .ok u w ∧ RV im w β m v u := by
  rcases takeV_ok (RCs.drop off h) ht with ⟨h1, h2, h3⟩ | ⟨h1, u, r, h2, h3⟩
  · refine ⟨.agg (cs.extract off (off + n)), by simp [part, run_isAgg hu, h1, run_sizeOf hn], ?_⟩
    have e : ((cs.toList.drop off).take n).toArray = cs.extract off (off + n) := by
      apply Array.ext'
      simp [List.take_drop]
    rwa [e] at h3
  · refine ⟨u, ?_, h3⟩
    have hc : cs[off]? = some u := by
      have := congrArg (·[0]?) h2
      simpa using this
    simp [part, run_isAgg hu, h1, hc]

/-! ### Structs held against each other -/
theorem eqRow_cons {t : Nat} {ts : List Nat} {xs ys : List C} {r : Bool} (h : eqRow (t :: ts) xs ys = some r) :
    ∃ x xs' y ys' q r', xs = x :: xs' ∧ ys = y :: ys' ∧ eqC t x y = some q ∧ eqRow ts xs' ys' = some r' ∧ r = (q && r') := by
  cases xs with
  | nil => simp [eqRow] at h
  | cons x xs =>
    cases ys with
    | nil => simp [eqRow] at h
    | cons y ys =>
      simp only [eqRow] at h
      split at h
      · rename_i q r' h1 h2
        simp only [Option.some.injEq] at h
        exact ⟨x, xs, y, ys, q, r', rfl, rfl, h1, h2, h.symm⟩
      · cases h

theorem eqRow_append : ∀ (ts us : List Nat) {xs ys : List C} {r : Bool}, eqRow (ts ++ us) xs ys = some r →
    ∃ r1 r2, eqRow ts (xs.take ts.length) (ys.take ts.length) = some r1 ∧ eqRow us (xs.drop ts.length) (ys.drop ts.length) = some r2 ∧ r = (r1 && r2)
  | [], us, xs, ys, r, h => ⟨true, r, by simp [eqRow], by simpa using h, by simp⟩
  | t :: ts, us, xs, ys, r, h => by
    obtain ⟨x, xs', y, ys', q, r', rfl, rfl, h0, h1, rfl⟩ := eqRow_cons h
    obtain ⟨r1, r2, g1, g2, rfl⟩ := eqRow_append ts us h1
    exact ⟨q && r1, r2, by simp [eqRow, h0, g1], by simpa using g2, by simp [Bool.and_assoc]⟩

theorem eqRow_length : ∀ (ts : List Nat) {xs ys : List C} {r : Bool}, eqRow ts xs ys = some r → xs.length = ts.length ∧ ys.length = ts.length
  | [], [], [], r, h => ⟨rfl, rfl⟩
  | [], _ :: _, _, r, h => by simp [eqRow] at h
  | [], [], _ :: _, r, h => by simp [eqRow] at h
  | t :: ts, xs, ys, r, h => by
    obtain ⟨x, xs', y, ys', q, r', rfl, rfl, _, h1, _⟩ := eqRow_cons h
    have := eqRow_length ts h1
    simp [this]

theorem tilesT_acc {f : TypeId → Option (List Nat)} : ∀ {fs : List Field} {acc all : List Nat}, tilesT f fs acc = some all → ∃ r, all = acc ++ r
  | [], acc, all, h => by simp only [tilesT, Option.some.injEq] at h; exact ⟨[], by simp [h]⟩
  | x :: fs, acc, all, h => by
    simp only [tilesT, Option.ite_none_right_eq_some] at h
    obtain ⟨_, h⟩ := h
    split at h
    · obtain ⟨r, rfl⟩ := tilesT_acc h
      exact ⟨_, by rw [List.append_assoc]⟩
    · cases h

theorem scalar_size {d : Nat} {t : TypeId} {ts : List Nat} (h : scalarT P d t = some ts) : sizeT P t = some ts.length ∧ ∃ u, P.underlying t = some u := by
  cases d with
  | zero => simp [scalarT] at h
  | succ d =>
    unfold scalarT at h
    split at h
    · rename_i e1 e2; simp at h; subst h; exact ⟨e2, _, e1⟩
    · rename_i e1 e2; simp at h; subst h; exact ⟨e2, _, e1⟩
    · rename_i e1 e2; simp at h; subst h; exact ⟨e2, _, e1⟩
    · rename_i e1 e2
      split at h
      · simp only [Option.ite_none_right_eq_some, Option.some.injEq] at h
        obtain ⟨⟨_, h1⟩, rfl⟩ := h; exact ⟨by rw [e2, h1], _, e1⟩
      · cases h
    · cases h

theorem scalar_one {d : Nat} {t : TypeId} {ts : List Nat} (h : scalarT P d t = some ts) (hag : isAggT P t = false) : ts.length = 1 := by
  cases d with
  | zero => simp [scalarT] at h
  | succ d =>
    unfold scalarT at h
    split at h
    · simp at h; subst h; rfl
    · simp at h; subst h; rfl
    · simp at h; subst h; rfl
    · rename_i e _; simp [isAggT, e] at hag
    · cases h

/-- The value that a type has over a row of cells. -/
def overCells (agg : Bool) (vs : List Value) : Value := if agg then .agg vs.toArray else vs.headD .nilIface

theorem part_over {t : TypeId} {n off : Nat} {cs : Array Value} {d : TypeDesc} (hn : sizeT P t = some n) (hu : P.underlying t = some d) (h1 : isAggT P t = false → n = 1) (hl : off + n ≤ cs.size) :
    (part t cs off).run P w = .ok (overCells (isAggT P t) ((cs.toList.drop off).take n)) w := by
  unfold overCells
  cases ha : isAggT P t with
  | true =>
    have e : ((cs.toList.drop off).take n).toArray = cs.extract off (off + n) := by
      apply Array.ext'
      simp [List.take_drop]
    simp [part, run_isAgg hu, ha, run_sizeOf hn, e]
  | false =>
    have h1 := h1 ha
    subst h1
    have hc : cs[off]? = some (cs[off]'(by omega)) := by simp
    have hd : (List.take 1 (cs.toList.drop off)) = [cs[off]'(by omega)] := by
      rw [List.drop_eq_getElem_cons (by simpa using (by omega : off < cs.size))]
      simp
    simp [part, run_isAgg hu, ha, hc, hd]

theorem eqC_ok {t : Nat} {x y : C} {q : Bool} {u v : Value} (h : eqC t x y = some q) (hx : RC im w β m x u) (hy : RC im w β m y v) :
    (t = 0 ∧ ∃ a b, u = .bool a ∧ v = .bool b ∧ q = (a == b)) ∨ (t = 1 ∧ ∃ k a b, u = .int k a ∧ v = .int k b ∧ q = (a == b)) ∨
    (t = 2 ∧ ∃ a b : List UInt8, u = .string ⟨⟨a⟩⟩ ∧ v = .string ⟨⟨b⟩⟩ ∧ q = (a == b)) := by
  unfold eqC at h
  split at h
  · simp only [Option.some.injEq] at h; simp only [RC, RS] at hx hy
    exact .inl ⟨rfl, _, _, hx, hy, h.symm⟩
  · simp only [Option.ite_none_right_eq_some, Option.some.injEq] at h; simp only [RC, RS] at hx hy
    obtain ⟨rfl, rfl⟩ := h
    exact .inr (.inl ⟨rfl, _, _, _, hx, hy, rfl⟩)
  · simp only [Option.some.injEq] at h; simp only [RC, RS] at hx hy
    exact .inr (.inr ⟨rfl, _, _, hx, hy, h.symm⟩)
  · cases h

theorem eqFields_ok {D : Nat} {f : TypeId → Option (List Nat)} {xs ys : List C} {cs ds : Array Value}
    (hx : RCs im w β m xs cs.toList) (hy : RCs im w β m ys ds.toList)
    (hf : ∀ t ts, f t = some ts → sizeT P t = some ts.length ∧ (∃ u, P.underlying t = some u) ∧ (isAggT P t = false → ts.length = 1) ∧
      ∀ (xs ys : List C) (vs us : List Value) (r : Bool), RCs im w β m xs vs → RCs im w β m ys us → eqRow ts xs ys = some r →
        (Op.equalIn D t (overCells (isAggT P t) vs) (overCells (isAggT P t) us)).run P w = .ok r w) :
    ∀ (fs : List Field) (acc all : List Nat) (r : Bool), tilesT f fs acc = some all → all.length ≤ xs.length → all.length ≤ ys.length →
      eqRow (all.drop acc.length) ((xs.take all.length).drop acc.length) ((ys.take all.length).drop acc.length) = some r →
      (Op.eqFields D cs ds fs).run P w = .ok r w
  | [], acc, all, r, h, _, _, he => by
    simp only [tilesT, Option.some.injEq] at h; subst h
    simp [eqRow] at he
    subst he
    simp [Op.eqFields]
  | x :: fs, acc, all, r, h, hlx, hly, he => by
    simp only [tilesT, Option.ite_none_right_eq_some] at h
    obtain ⟨⟨hn, ho⟩, h⟩ := h
    split at h
    · rename_i ts hts
      obtain ⟨h1, ⟨d, h2⟩, h3, h4⟩ := hf _ _ hts
      obtain ⟨rest, rfl⟩ := tilesT_acc h
      have hd : (acc ++ ts ++ rest).drop acc.length = ts ++ rest := by simp
      rw [hd] at he
      obtain ⟨r1, r2, g1, g2, rfl⟩ := eqRow_append ts rest he
      have hlen := RCs.length hx
      have hlen' := RCs.length hy
      simp only [List.length_append] at hlx hly
      have p1 : (part x.type cs x.offset).run P w = .ok (overCells (isAggT P x.type) ((cs.toList.drop x.offset).take ts.length)) w :=
        part_over h1 h2 h3 (by simp at hlen; omega)
      have p2 : (part x.type ds x.offset).run P w = .ok (overCells (isAggT P x.type) ((ds.toList.drop x.offset).take ts.length)) w :=
        part_over h1 h2 h3 (by simp at hlen'; omega)
      have q1 := h4 _ _ ((cs.toList.drop x.offset).take ts.length) ((ds.toList.drop x.offset).take ts.length) r1
        (by have := RCs.take ts.length (RCs.drop acc.length hx); rw [ho]; exact this) (by have := RCs.take ts.length (RCs.drop acc.length hy); rw [ho]; exact this)
        (by
          rw [List.drop_take, List.take_take, List.drop_take, List.take_take] at g1
          have e : min ts.length ((acc ++ ts ++ rest).length - acc.length) = ts.length := by simp
          rw [e] at g1
          exact g1)
      have ih := eqFields_ok hx hy hf fs (acc ++ ts) _ r2 h (by simp; omega) (by simp; omega)
        (by
          have e1 : (acc ++ ts ++ rest).drop (acc ++ ts).length = rest := by simp
          rw [e1]
          simpa [List.drop_drop, Nat.add_comm] using g2)
      simp only [Op.eqFields, hn, ne_eq, not_false_eq_true, if_true, Sem.run_bind, p1, p2, q1, Result.andThen_ok, Sem.run_ite]
      cases r1
      · simp
      · simpa using ih
    · cases h

theorem equal_ok : ∀ (d : Nat) (t : TypeId) (ts : List Nat) (D : Nat), scalarT P d t = some ts → d ≤ D → ∀ (xs ys : List C) (vs us : List Value) (r : Bool),
    RCs im w β m xs vs → RCs im w β m ys us → eqRow ts xs ys = some r →
    (Op.equalIn D t (overCells (isAggT P t) vs) (overCells (isAggT P t) us)).run P w = .ok r w
  | 0, t, ts, D, h => by simp [scalarT] at h
  | d + 1, t, ts, D, h => by
    intro hD xs ys vs us r hx hy he
    obtain ⟨D', rfl⟩ : ∃ D', D = D' + 1 := ⟨D - 1, by omega⟩
    have one : ∀ {t0 : Nat}, eqRow [t0] xs ys = some r → ∃ x y u v, eqC t0 x y = some r ∧ RC im w β m x u ∧ RC im w β m y v ∧ vs = [u] ∧ us = [v] := by
      intro t0 he
      obtain ⟨x, xs', y, ys', q, r', rfl, rfl, h0, h1, rfl⟩ := eqRow_cons he
      obtain ⟨e1, e2⟩ := eqRow_length [] h1
      simp only [List.length_nil, List.length_eq_zero_iff] at e1 e2
      subst e1 e2
      simp only [eqRow, Option.some.injEq] at h1; subst h1
      match vs, us, hx, hy with
      | [u], [v], hx, hy => exact ⟨x, y, u, v, by simpa using h0, hx.1, hy.1, rfl, rfl⟩
      | [], _, hx, _ => exact hx.elim
      | _ :: _ :: _, _, hx, _ => exact hx.2.elim
      | [_], [], _, hy => exact hy.elim
      | [_], _ :: _ :: _, _, hy => exact hy.2.elim
    unfold scalarT at h
    split at h
    · rename_i e1 e2
      simp only [Option.some.injEq] at h; subst h
      obtain ⟨x, y, u, v, h0, gx, gy, rfl, rfl⟩ := one he
      have ha : isAggT P t = false := by simp [isAggT, e1]
      rcases eqC_ok h0 gx gy with ⟨_, a, b, rfl, rfl, rfl⟩ | ⟨hh, _⟩ | ⟨hh, _⟩
      · simpa [overCells, ha] using run_equalIn_bool w D' t a b e1
      · cases hh
      · cases hh
    · rename_i k e1 e2
      simp only [Option.some.injEq] at h; subst h
      obtain ⟨x, y, u, v, h0, gx, gy, rfl, rfl⟩ := one he
      have ha : isAggT P t = false := by simp [isAggT, e1]
      rcases eqC_ok h0 gx gy with ⟨hh, _⟩ | ⟨_, k', a, b, rfl, rfl, rfl⟩ | ⟨hh, _⟩
      · cases hh
      · simpa [overCells, ha] using run_equalIn_int w D' t k' k a b e1
      · cases hh
    · rename_i e1 e2
      simp only [Option.some.injEq] at h; subst h
      obtain ⟨x, y, u, v, h0, gx, gy, rfl, rfl⟩ := one he
      have ha : isAggT P t = false := by simp [isAggT, e1]
      rcases eqC_ok h0 gx gy with ⟨hh, _⟩ | ⟨hh, _⟩ | ⟨_, a, b, rfl, rfl, rfl⟩
      · cases hh
      · cases hh
      · have := run_equalIn_string w D' t ⟨⟨a⟩⟩ ⟨⟨b⟩⟩ e1
        rw [toList_mk, toList_mk] at this
        simpa [overCells, ha] using this
    · rename_i fs n e1 e2
      split at h
      · rename_i ts' hts
        simp only [Option.ite_none_right_eq_some, Option.some.injEq] at h
        obtain ⟨⟨hs, hn⟩, rfl⟩ := h
        have ha : isAggT P t = true := by simp [isAggT, e1]
        have hfo : P.fieldsOf t = fs := by simp [Program.fieldsOf, e1]
        obtain ⟨l1, l2⟩ := eqRow_length _ he
        have hE := eqFields_ok (P := P) (D := D') (f := scalarT P d) (cs := vs.toArray) (ds := us.toArray) (xs := xs) (ys := ys) (by simpa using hx) (by simpa using hy)
          (fun t' ts'' ht' => ⟨(scalar_size ht').1, (scalar_size ht').2, scalar_one ht', fun xs ys vs us r hx hy he => equal_ok d t' ts'' D' ht' (by omega) xs ys vs us r hx hy he⟩)
          fs.toList [] ts' r hts (by omega) (by omega) (by
            have e3 : xs.take ts'.length = xs := List.take_of_length_le (by omega)
            have e4 : ys.take ts'.length = ys := List.take_of_length_le (by omega)
            simpa [e3, e4] using he)
        rw [ha]
        show (Op.equalIn (D' + 1) t (.agg vs.toArray) (.agg us.toArray)).run P w = _
        rw [run_equalIn_struct w D' t _ _ (by rw [hfo]; exact e1) hs, hfo]
        exact hE
      · cases h
    · cases h
end
end Go.Ab
