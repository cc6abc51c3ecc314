/- Quiet operations that look into memory, or reckon addresses. -/
import Derived.Test.YtcnemnehjpaggaaAb7
set_option linter.all false
namespace Go.Ab
open Go Go.RowKit

section
variable {im : Nat → Prop} {w : World} {β : Nat → BI} {P : Program} {N : Nat} {w0 : W0} {st : AS} {a : Act} {v : V} {ups : List (Nat × Obj)}

theorem addr_add (b o n : Nat) : (⟨b, o, none⟩ : Addr).add n = ⟨b, o + n, none⟩ := by
  unfold Addr.add; split <;> simp_all

/-! ### Rows -/
theorem RRow.vals : ∀ {b o : Nat} {row : List S}, RRow im w b o row → ∃ vs : List Value, (∀ j u, vs[j]? = some u → w.cell? ⟨b, o + j, none⟩ = some u) ∧ RVals im w row vs
  | _, _, [], _ => ⟨[], by simp, by simp [RVals]⟩
  | b, o, x :: xs, h => by
    simp only [RRow] at h
    obtain ⟨⟨c, hc, hx⟩, h2⟩ := h
    obtain ⟨vs, h3, h4⟩ := RRow.vals h2
    refine ⟨c :: vs, fun j u hj => ?_, by simp only [RVals]; exact ⟨hx, h4⟩⟩
    cases j with
    | zero => simp at hj; subst hj; simpa using hc
    | succ j => have := h3 j u (by simpa using hj); rw [← this]; congr 2; omega

theorem RRow.drop : ∀ (n : Nat) {b o : Nat} {row : List S}, RRow im w b o row → RRow im w b (o + n) (row.drop n)
  | 0, _, _, _, h => h
  | n + 1, _, _, [], h => by simp [RRow]
  | n + 1, b, o, x :: xs, h => by
    simp only [RRow] at h
    have := RRow.drop n h.2
    simpa [Nat.add_assoc, Nat.add_comm 1 n] using this

theorem RRows.get {k b : Nat} : ∀ {o : Nat} {rows : List (List S)} (i : Nat) {r : List S}, RRows im w k b o rows → rows[i]? = some r → r.length = k ∧ RRow im w b (o + i * k) r
  | o, r :: rs, 0, r', h, e => by simp only [RRows] at h; simp at e; subst e; exact ⟨h.1, by simpa using h.2.1⟩
  | o, r :: rs, i + 1, r', h, e => by
    simp only [RRows] at h
    have := RRows.get i h.2.2 (by simpa using e)
    refine ⟨this.1, ?_⟩
    have e2 : o + (i + 1) * k = o + k + i * k := by rw [Nat.add_mul]; omega
    rw [e2]; exact this.2
  | _, [], _, _, _, e => by simp at e

theorem RRows.drop {k b : Nat} : ∀ (n : Nat) {o : Nat} {rows : List (List S)}, RRows im w k b o rows → RRows im w k b (o + n * k) (rows.drop n)
  | 0, _, _, h => by simpa using h
  | n + 1, _, [], _ => by simp [RRows]
  | n + 1, o, r :: rs, h => by
    simp only [RRows] at h
    have := RRows.drop n h.2.2
    have e2 : o + (n + 1) * k = o + k + n * k := by rw [Nat.add_mul]; omega
    rw [e2]; simpa using this

theorem RRows.take {k b : Nat} : ∀ (n : Nat) {o : Nat} {rows : List (List S)}, RRows im w k b o rows → RRows im w k b o (rows.take n)
  | 0, _, _, _ => by simp [RRows]
  | n + 1, _, [], _ => by simp [RRows]
  | n + 1, o, r :: rs, h => by
    simp only [RRows, List.take_succ_cons] at *
    exact ⟨h.1, h.2.1, RRows.take n h.2.2⟩

theorem getD_some {α : Type} {l : List α} {i : Nat} {d : α} (h : i < l.length) : l[i]? = some (l.getD i d) := by
  simp [List.getD, h]

/-! ### Slice expressions -/
def OR (im : Nat → Prop) (w : World) (β : Nat → BI) (m : Nat → Option Obj) : Option V → Option Value → Prop
  | none, none => True
  | some x, some v => RV im w β m x v
  | _, _ => False

theorem intV_ok {x : V} {u : Value} {n : Int} {m : Nat → Option Obj} (h : RV im w β m x u) (e : intV x = some n) : ∃ k, u = .int k n := by
  unfold intV at e
  split at e
  · simp only [Option.some.injEq] at e; subst e; exact ⟨_, by simpa only [RV, RC, RS] using h⟩
  · cases e

theorem sliceBound_ok {k : IntKind} {n : Int} {y : Nat} {code : BoundsCode} (h0 : 0 ≤ n) (h1 : n ≤ y) : (Instr.sliceBound (.int k n) y code).run P w = .ok n.toNat w := by
  simp [Instr.sliceBound, asIntOf, h0, h1]

theorem slcB {m : Nat → Option Obj} {isSl : Bool} {len cap l hh : Nat} {mm : Option Nat} {A B C : Option V} {lo hi mx : Option Value} (hl : len ≤ cap) (hs : slcBounds len A B C = some (l, hh, mm))
    (hA : OR im w β m A lo) (hB : OR im w β m B hi) (hC : OR im w β m C mx) (hm : mx.isSome → hi.isSome) :
    (Instr.sliceBounds isSl len cap lo hi mx).run P w = .ok (l, hh, mm.getD cap) w ∧ l ≤ hh ∧ hh ≤ len ∧ (∀ x, mm = some x → hh ≤ x ∧ x ≤ len) ∧ (mm.isSome = mx.isSome) := by
  unfold slcBounds at hs
  have hi' : ∀ {D : Option V} {d : Option Value} {e n : Int}, OR im w β m D d → optI e D = some n → (D = none ∧ d = none ∧ n = e) ∨ ∃ k, d = some (.int k n) := fun {D d e n} h1 h2 => by
    match D, d, h1 with
    | none, none, _ => simp only [optI, Option.some.injEq] at h2; exact .inl ⟨rfl, rfl, h2.symm⟩
    | some x, some u, h1 => obtain ⟨k, rfl⟩ := intV_ok h1 h2; exact .inr ⟨k, rfl⟩
  split at hs
  · rename_i l' h' e1 e2
    simp only [Option.ite_none_right_eq_some, Option.some.injEq, Prod.mk.injEq] at hs
    obtain ⟨⟨g0, g1, g2⟩, rfl, rfl, rfl⟩ := hs
    have hmx : mx = none := by cases mx with | none => rfl | some _ => exact hC.elim
    subst hmx
    refine ⟨?_, by omega, by omega, by simp, rfl⟩
    rcases hi' hB e2 with ⟨_, rfl, rfl⟩ | ⟨k2, rfl⟩ <;> rcases hi' hA e1 with ⟨_, rfl, rfl⟩ | ⟨k1, rfl⟩
    · simp [Instr.sliceBounds]
    · simp [Instr.sliceBounds, sliceBound_ok g0 (show l' ≤ (len : Nat) from g1)]
    · simp [Instr.sliceBounds, sliceBound_ok (show (0 : Int) ≤ h' by omega) (show h' ≤ (cap : Nat) by omega)]
    · simp [Instr.sliceBounds, sliceBound_ok (show (0 : Int) ≤ h' by omega) (show h' ≤ (cap : Nat) by omega), sliceBound_ok g0 (show l' ≤ (h'.toNat : Nat) by omega)]
  · rename_i l' h' m' e1 e2
    split at hs
    · rename_i mi e4
      simp only [Option.ite_none_right_eq_some, Option.some.injEq, Prod.mk.injEq] at hs
      obtain ⟨⟨g0, g1, g2, g3⟩, rfl, rfl, rfl⟩ := hs
      cases mx with
      | none => exact hC.elim
      | some mv =>
        obtain ⟨k3, rfl⟩ := intV_ok hC e4
        refine ⟨?_, by omega, by omega, fun x hx => by simp only [Option.some.injEq] at hx; omega, rfl⟩
        rcases hi' hB e2 with ⟨_, rfl, _⟩ | ⟨k2, rfl⟩
        · simp at hm
        rcases hi' hA e1 with ⟨_, rfl, rfl⟩ | ⟨k1, rfl⟩
        · simp [Instr.sliceBounds, sliceBound_ok (show (0 : Int) ≤ mi by omega) (show mi ≤ (cap : Nat) by omega), sliceBound_ok (show (0 : Int) ≤ h' by omega) (show h' ≤ (mi.toNat : Nat) by omega)]
        · simp [Instr.sliceBounds, sliceBound_ok (show (0 : Int) ≤ mi by omega) (show mi ≤ (cap : Nat) by omega), sliceBound_ok (show (0 : Int) ≤ h' by omega) (show h' ≤ (mi.toNat : Nat) by omega), sliceBound_ok g0 (show l' ≤ (h'.toNat : Nat) by omega)]
    · cases hs
  · cases hs

theorem split3_ok (h : Rel N w0 im β st a w) {lo hi mx : Option Operand} {A B C : Option V}
    (hs : split3 lo.isSome hi.isSome mx.isSome ((lo.toList ++ hi.toList ++ mx.toList).map fun x => ev st.env (cO x)) = some (A, B, C)) :
    OR im w β st.mem A (lo.map a.eval) ∧ OR im w β st.mem B (hi.map a.eval) ∧ OR im w β st.mem C (mx.map a.eval) ∧ (mx.isSome → hi.isSome) := by
  cases lo <;> cases hi <;> cases mx <;> simp [split3] at hs <;> obtain ⟨rfl, rfl, rfl⟩ := hs <;> simp [OR, ev_ok h]

theorem slcS_ok (h : Rel N w0 im β st a w) {t : TypeId} {x : Operand} {lo hi mx : Option Operand} (ht : P.underlying t = some .string) (hmx : mx = none)
    (hr : runSlcS lo.isSome hi.isSome (ev st.env (cO x) :: (lo.toList ++ hi.toList).map fun x => ev st.env (cO x)) = some (v, ups)) : Shown P im w β st a (.slice t x lo hi mx) v ups := by
  subst hmx
  unfold runSlcS at hr
  split at hr
  · rename_i s r e
    simp only [List.cons.injEq] at e
    obtain ⟨e1, rfl⟩ := e
    have ex := str_of h e1
    split at hr
    · rename_i A B C' e2
      have e2' : split3 lo.isSome hi.isSome (none : Option Operand).isSome ((lo.toList ++ hi.toList ++ (none : Option Operand).toList).map fun x => ev st.env (cO x)) = some (A, B, C') := by simpa using e2
      obtain ⟨hA, hB, hC, _⟩ := split3_ok h e2'
      split at hr
      · rename_i l hh mm e3
        simp only [Option.some.injEq, Prod.mk.injEq] at hr
        obtain ⟨rfl, rfl⟩ := hr
        obtain ⟨hb, g1, g2, _, _⟩ := slcB (P := P) (isSl := false) (cap := s.length) (mx := none) (Nat.le_refl _) e3 hA hB (by simp [OR]) (by simp)
        refine ⟨rfl, .string ((⟨⟨s⟩⟩ : ByteArray).extract l hh), fun o ho => ?_, ?_⟩
        · have hb' : (Instr.sliceBounds false (⟨⟨s⟩⟩ : ByteArray).size (⟨⟨s⟩⟩ : ByteArray).size (lo.map a.eval) (hi.map a.eval) none).run P w = .ok (l, hh, mm.getD s.length) w := hb
          simp [Yld, execOp, ho, ex, Instr.sliceAt, Instr.slice, run_underlying ht, hb']
        · simp only [RV, RC, RS]
          congr 1
          apply ByteArray.ext
          rw [ByteArray.data_extract]
          apply Array.ext'
          simp [List.drop_take]
      · cases hr
    · cases hr
  · cases hr

theorem slcL_ok (h : Rel N w0 im β st a w) {t e : TypeId} {x : Operand} {lo hi mx : Option Operand} {k : Nat} (ht : P.underlying t = some (.slice e)) (hk : sizeT P e = some k)
    (hr : runSlcL k lo.isSome hi.isSome mx.isSome (ev st.env (cO x) :: (lo.toList ++ hi.toList ++ mx.toList).map fun x => ev st.env (cO x)) = some (v, ups)) : Shown P im w β st a (.slice t x lo hi mx) v ups := by
  unfold runSlcL at hr
  split at hr
  · rename_i k' rows full r e
    simp only [List.cons.injEq] at e
    obtain ⟨e1, rfl⟩ := e
    have hx := ev_ok h x; rw [e1] at hx
    simp only [RV, RC, RS] at hx
    obtain ⟨ad, cap, ex, c1, c2, c3⟩ := hx
    split at hr
    case isFalse => cases hr
    rename_i hkk
    split at hr
    · rename_i A B C' e2
      obtain ⟨hA, hB, hC, hm⟩ := split3_ok h e2
      have fin : ∀ {l hh : Nat} {mm : Option Nat} {f : Bool}, slcBounds rows.length A B C' = some (l, hh, mm) → (f = true → mm.getD cap = hh) →
          Shown P im w β st a (.slice t x lo hi mx) (.c (.s (.list k ((rows.take hh).drop l) f))) [] := fun {l hh mm f} e3 hf => by
        obtain ⟨hb, g1, g2, g3, g4⟩ := slcB (P := P) (isSl := true) (cap := cap) c1 e3 hA hB hC (by simpa using hm)
        have hcap : hh ≤ mm.getD cap := by
          cases mm with
          | none => simp; omega
          | some y => simp; exact (g3 y rfl).1
        refine ⟨rfl, .slice (if mm.getD cap = l then ad else ad.map (·.add (l * k))) (hh - l) (mm.getD cap - l), fun o ho => ?_, ?_⟩
        · simp [Yld, execOp, ho, ex, Instr.sliceAt, Instr.slice, run_underlying ht, hb, run_sizeOf hk]
        · simp only [RV, RC, RS]
          have hlen : ((rows.take hh).drop l).length = hh - l := by simp; omega
          refine ⟨_, _, by rw [hlen], by omega, fun hft => by have := hf hft; omega, fun hne => ?_⟩
          have hlt : l < hh := by
            rcases Nat.lt_or_ge l hh with h' | h'
            · exact h'
            · exfalso; apply hne; apply List.eq_nil_of_length_eq_zero; omega
          have hrow : rows ≠ [] := by intro h0; rw [h0] at g2; simp at g2; omega
          obtain ⟨b, o, rfl, i1, i2⟩ := c3 hrow
          have hkk' : k' = k := hkk.resolve_right hrow
          subst hkk'
          rw [if_neg (by omega)]
          refine ⟨b, o + l * k', by simp [addr_add], i1, RRows.drop l (RRows.take hh i2)⟩
      split at hr
      · rename_i l hh e3
        simp only [Option.some.injEq, Prod.mk.injEq] at hr
        obtain ⟨rfl, rfl⟩ := hr
        exact fin e3 (fun hf => by simp only [Bool.and_eq_true, beq_iff_eq] at hf; simp [c2 hf.1, hf.2])
      · rename_i l hh y e3
        simp only [Option.some.injEq, Prod.mk.injEq] at hr
        obtain ⟨rfl, rfl⟩ := hr
        exact fin e3 (fun hf => by simp only [beq_iff_eq] at hf; simp [hf])
      · cases hr
    · cases hr
  · cases hr

/-! ### Addresses -/
theorem ownRows_some {m : Nat → Option Obj} {l n k : Nat} {rows : List (List S)} (h : ownRows m l n = some (k, rows)) : n = rows.length ∧ rowOf (m l) = some (k, rows) ∧ (m l = some (.row k rows) ∨ m l = some (.srow k rows)) := by
  unfold ownRows at h
  split at h
  · rename_i e
    simp only [Option.ite_none_right_eq_some, Option.some.injEq, Prod.mk.injEq] at h
    obtain ⟨h1, rfl, rfl⟩ := h
    exact ⟨h1, by simp [rowOf, e], .inl e⟩
  · rename_i e
    simp only [Option.ite_none_right_eq_some, Option.some.injEq, Prod.mk.injEq] at h
    obtain ⟨h1, rfl, rfl⟩ := h
    exact ⟨h1, by simp [rowOf, e], .inr e⟩
  · cases h

/-- The row of a slice of the frame's own. -/
theorem own_row (h : MemOK w0 im β st.mem w) {l n k : Nat} {rows : List (List S)} (ho : ownRows st.mem l n = some (k, rows)) :
    rows.length ≤ (β l).cap ∧ ((β l).cap = 0 ∨ ∃ b, (β l).a = some ⟨b, 0, none⟩ ∧ RRows im w k b 0 rows) := by
  obtain ⟨_, _, h3 | h3⟩ := ownRows_some ho
  · obtain ⟨g1, g2⟩ := h.obj _ _ h3
    refine ⟨g1, g2.imp id ?_⟩
    rintro ⟨b, arr, T, i1, _, _, i5⟩
    exact ⟨b, i1, i5⟩
  · exact h.obj _ _ h3

theorem fadr_ok (h : Rel N w0 im β st a w) {s : TypeId} {x : Operand} {i n : Nat} {fs : Array Field} {f : Field} (hs : P.underlying s = some (.struct fs)) (hf : fs[i]? = some f) (hn : sizeT P f.type = some n) (h0 : n ≠ 0)
    (hr : runFadr f.offset st.mem [ev st.env (cO x)] = some (v, ups)) : Shown P im w β st a (.fieldAddr s x i) v ups := by
  have run : ∀ {b o : Nat}, a.eval x = .pointer (some ⟨b, o, none⟩) → ∀ (o' : Oper), o'.op = .fieldAddr s x i → Yld P a w o' (.pointer (some ⟨b, o + f.offset, none⟩)) := fun {b o} ex o' ho => by
    simp [Yld, execOp, ho, ex, Instr.fieldAt, run_underlying hs, hf, Instr.sureAddr, fieldPlace, run_sizeOf hn, h0, addr_add]
  unfold runFadr at hr
  split at hr
  · rename_i l o e
    simp only [List.cons.injEq, and_true] at e
    have hx := ev_ok h x; rw [e] at hx
    simp only [Option.some.injEq, Prod.mk.injEq] at hr
    obtain ⟨rfl, rfl⟩ := hr
    obtain ⟨h1, b, h2, ex⟩ := hx
    exact ⟨rfl, _, run ex, h1, b, h2, rfl⟩
  · rename_i l n' i' o e
    simp only [List.cons.injEq, and_true] at e
    have hx := ev_ok h x; rw [e] at hx
    split at hr
    · rename_i kr ho
      obtain ⟨k, rows⟩ := kr
      simp only [Option.some.injEq, Prod.mk.injEq] at hr
      obtain ⟨rfl, rfl⟩ := hr
      obtain ⟨g1, g2, _⟩ := ownRows_some ho
      obtain ⟨k', rows', e1, e2, e3, e4⟩ := hx
      rw [g2] at e1
      simp only [Option.some.injEq, Prod.mk.injEq] at e1
      obtain ⟨rfl, rfl⟩ := e1
      obtain ⟨e5, b, e6, ex⟩ := e4 g1
      exact ⟨rfl, _, run ex, k, rows, g2, e2, ⟨_, rfl⟩, fun _ => ⟨e5, b, e6, by rw [Nat.add_assoc]⟩⟩
    · cases hr
  · rename_i cells e
    simp only [List.cons.injEq, and_true] at e
    have hx := ev_ok h x; rw [e] at hx
    simp only [Option.some.injEq, Prod.mk.injEq] at hr
    obtain ⟨rfl, rfl⟩ := hr
    simp only [RV, RC, RS] at hx
    obtain ⟨b, o, ex, h1, h2⟩ := hx
    exact ⟨rfl, _, run ex, by simp only [RV, RC, RS]; exact ⟨b, o + f.offset, rfl, h1, RRow.drop _ h2⟩⟩
  · cases hr

theorem iadr_ok (h : Rel N w0 im β st a w) {t e : TypeId} {x i : Operand} {k : Nat} (ht : P.underlying t = some (.slice e)) (hk : sizeT P e = some k)
    (hr : runIadr k st.mem [ev st.env (cO x), ev st.env (cO i)] = some (v, ups)) : Shown P im w β st a (.indexAddr t x i) v ups := by
  have run : ∀ {b o len cap : Nat} {kk : IntKind} {n : Int}, a.eval x = .slice (some ⟨b, o, none⟩) len cap → a.eval i = .int kk n → 0 ≤ n → n < len → ∀ (o' : Oper), o'.op = .indexAddr t x i →
      Yld P a w o' (.pointer (some ⟨b, o + n.toNat * k, none⟩)) := fun {b o len cap kk n} ex ei h0 h1 o' ho => by
    simp [Yld, execOp, ho, ex, ei, Instr.indexAt, run_underlying ht, asIntOf, h0, h1, run_sizeOf hk, addr_add]
  unfold runIadr at hr
  split at hr
  · rename_i k' rows full kk n e
    simp only [List.cons.injEq, and_true] at e
    obtain ⟨e1, e2⟩ := e
    have hx := ev_ok h x; rw [e1] at hx
    have ei := int_of h e2
    simp only [Option.ite_none_right_eq_some, Option.some.injEq, Prod.mk.injEq] at hr
    obtain ⟨⟨rfl, h0, h1⟩, rfl, rfl⟩ := hr
    simp only [RV, RC, RS] at hx
    obtain ⟨ad, cap, ex, c1, c2, c3⟩ := hx
    have hlt : n.toNat < rows.length := by omega
    obtain ⟨b, o, rfl, i1, i2⟩ := c3 (by intro h0; rw [h0] at hlt; simp at hlt)
    obtain ⟨g1, g2⟩ := RRows.get n.toNat i2 (getD_some (d := []) hlt)
    exact ⟨rfl, _, run ex ei h0 h1, by simp only [RV, RC, RS]; exact ⟨b, _, rfl, i1, g2⟩⟩
  · rename_i l n' kk n e
    simp only [List.cons.injEq, and_true] at e
    obtain ⟨e1, e2⟩ := e
    have hx := ev_ok h x; rw [e1] at hx
    have ei := int_of h e2
    split at hr
    · rename_i k' rows ho
      simp only [Option.ite_none_right_eq_some, Option.some.injEq, Prod.mk.injEq] at hr
      obtain ⟨⟨rfl, h0, h1⟩, rfl, rfl⟩ := hr
      obtain ⟨g1, g2, _⟩ := ownRows_some ho
      obtain ⟨k2, rows2, f1, f2, f3, f4⟩ := hx
      rw [g2] at f1
      simp only [Option.some.injEq, Prod.mk.injEq] at f1
      obtain ⟨rfl, rfl⟩ := f1
      obtain ⟨q1, q2⟩ := own_row h.mem ho
      rcases q2 with q2 | ⟨b, q2, q3⟩
      · omega
      have ex := f4 g1
      rw [q2] at ex
      refine ⟨rfl, _, run ex ei h0 (by omega), k', rows, g2, f2, ⟨_, rfl⟩, fun _ => ⟨by omega, b, q2, by simp⟩⟩
    · cases hr
  · cases hr

theorem iadrP_ok (h : Rel N w0 im β st a w) {t e : TypeId} {x i : Operand} {k n : Nat} (ht : P.underlying t = some (.array n e)) (hk : sizeT P e = some k)
    (hr : runIadrP n k [ev st.env (cO x), ev st.env (cO i)] = some (v, ups)) : Shown P im w β st a (.indexAddr t x i) v ups := by
  have run : ∀ {b o : Nat} {kk : IntKind} {j : Int}, a.eval x = .pointer (some ⟨b, o, none⟩) → a.eval i = .int kk j → 0 ≤ j → j < n → ∀ (o' : Oper), o'.op = .indexAddr t x i →
      Yld P a w o' (.pointer (some ⟨b, o + j.toNat * k, none⟩)) := fun {b o kk j} ex ei h0 h1 o' ho => by
    simp [Yld, execOp, ho, ex, ei, Instr.indexAt, run_underlying ht, asIntOf, Instr.sureAddr, h0, h1, run_sizeOf hk, addr_add]
  unfold runIadrP at hr
  split at hr
  · rename_i l o kk j e
    simp only [List.cons.injEq, and_true] at e
    obtain ⟨e1, e2⟩ := e
    have hx := ev_ok h x; rw [e1] at hx
    have ei := int_of h e2
    simp only [Option.ite_none_right_eq_some, Option.some.injEq, Prod.mk.injEq] at hr
    obtain ⟨⟨h0, h1⟩, rfl, rfl⟩ := hr
    obtain ⟨f1, b, f2, ex⟩ := hx
    exact ⟨rfl, _, run ex ei h0 h1, f1, b, f2, rfl⟩
  · rename_i cells kk j e
    simp only [List.cons.injEq, and_true] at e
    obtain ⟨e1, e2⟩ := e
    have hx := ev_ok h x; rw [e1] at hx
    have ei := int_of h e2
    simp only [Option.ite_none_right_eq_some, Option.some.injEq, Prod.mk.injEq] at hr
    obtain ⟨⟨h0, h1⟩, rfl, rfl⟩ := hr
    simp only [RV, RC, RS] at hx
    obtain ⟨b, o, ex, f1, f2⟩ := hx
    exact ⟨rfl, _, run ex ei h0 h1, by simp only [RV, RC, RS]; exact ⟨b, _, rfl, f1, RRow.drop _ f2⟩⟩
  · cases hr

/-! ### Loads -/
theorem run_loadVar {t : TypeId} {d : TypeDesc} {n b o : Nat} {xs : List C} {vs : List Value} {m : Nat → Option Obj} (hu : P.underlying t = some d) (hn : sizeT P t = some n)
    (hc : ∀ j u, vs[j]? = some u → w.cell? ⟨b, o + j, none⟩ = some u) (hx : RCs im w β m xs vs) (ht : takeV n (isAggT P t) xs = some v) :
    ∃ u, (loadVar t ⟨b, o, none⟩).run P w = .ok u w ∧ RV im w β m v u := by
  rcases takeV_ok hx ht with ⟨h1, h2, h3⟩ | ⟨h1, u, r, h2, h3⟩
  · have hl := run_loadCells_list (P := P) w ⟨b, o, none⟩ (vs.take n) (fun j u hj => by
      rw [addr_add]; exact hc j u (by rw [List.getElem?_take] at hj; split at hj <;> simp_all))
    rw [List.length_take_of_le h2] at hl
    exact ⟨.agg (vs.take n).toArray, by simp [loadVar, run_isAgg hu, h1, run_sizeOf hn, hl], h3⟩
  · have hc0 := hc 0 u (by rw [h2]; rfl)
    exact ⟨u, by simp [loadVar, run_isAgg hu, h1, load, Sem.run, show w.cell? ⟨b, o, none⟩ = some u by simpa using hc0], h3⟩

theorem cells_of_block {b : Nat} {arr : Array Value} {T : TypeId} {fr : Nat × Nat} (hb : w.heap[b]? = some (.cells arr T fr)) (o : Nat) :
    ∀ j u, (arr.toList.drop o)[j]? = some u → w.cell? ⟨b, o + j, none⟩ = some u := fun j u hj => by
  rw [cell_of_row w b (o + j) arr T fr hb]
  simpa [List.getElem?_drop] using hj

theorem load_ok (h : Rel N w0 im β st a w) {t : TypeId} {d : TypeDesc} {x : Operand} {n : Nat} (hu : P.underlying t = some d) (hn : sizeT P t = some n)
    (hr : runLoad n (isAggT P t) st.mem [ev st.env (cO x)] = some (v, ups)) : Shown P im w β st a (.load t x) v ups := by
  have fin : ∀ {b o : Nat} {u : Value}, a.eval x = .pointer (some ⟨b, o, none⟩) → (loadVar t ⟨b, o, none⟩).run P w = .ok u w → ∀ (o' : Oper), o'.op = .load t x → Yld P a w o' u := fun {b o u} ex hl o' ho => by
    simp [Yld, execOp, ho, ex, Instr.loadAt, Instr.sureAddr, hl]
  unfold runLoad at hr
  split at hr
  · rename_i l o e
    simp only [List.cons.injEq, and_true] at e
    have hx := ev_ok h x; rw [e] at hx
    obtain ⟨f1, b, f2, ex⟩ := hx
    split at hr
    · rename_i cells ho
      simp only [Option.map_eq_some_iff, Prod.mk.injEq] at hr
      obtain ⟨v', hr, rfl, rfl⟩ := hr
      obtain ⟨b', arr, T, g1, g2, g3⟩ := h.mem.obj _ _ ho
      rw [f2] at g1; simp only [Option.some.injEq, Addr.mk.injEq, and_true] at g1; subst g1
      obtain ⟨u, q1, q2⟩ := run_loadVar hu hn (cells_of_block g2 o) (RCs.drop o g3) hr
      exact ⟨rfl, u, fin ex q1, q2⟩
    · rename_i cells ho
      simp only [Option.map_eq_some_iff, Prod.mk.injEq] at hr
      obtain ⟨v', hr, rfl, rfl⟩ := hr
      obtain ⟨b', arr, T, fr, g1, g2, g3⟩ := h.mem.obj _ _ ho
      rw [f2] at g1; simp only [Option.some.injEq, Addr.mk.injEq, and_true] at g1; subst g1
      have g3' : RCs im w β st.mem ((cells.drop o).map C.s) (arr.toList.drop o) := by rw [List.map_drop]; exact RCs.drop o (RVals.toCs g3)
      obtain ⟨u, q1, q2⟩ := run_loadVar hu hn (cells_of_block g2 o) g3' hr
      exact ⟨rfl, u, fin ex q1, q2⟩
    · cases hr
  · rename_i l len i o e
    simp only [List.cons.injEq, and_true] at e
    have hx := ev_ok h x; rw [e] at hx
    split at hr
    · rename_i k' rows ho
      simp only [Option.map_eq_some_iff, Prod.mk.injEq] at hr
      obtain ⟨v', hr, rfl, rfl⟩ := hr
      obtain ⟨g1, g2, _⟩ := ownRows_some ho
      obtain ⟨k2, rows2, e1, e2, e3, e4⟩ := hx
      rw [g2] at e1
      simp only [Option.some.injEq, Prod.mk.injEq] at e1
      obtain ⟨rfl, rfl⟩ := e1
      obtain ⟨e5, b, e6, ex⟩ := e4 g1
      obtain ⟨q1, q2⟩ := own_row h.mem ho
      rcases q2 with q2 | ⟨b', q2, q3⟩
      · omega
      rw [e6] at q2; simp only [Option.some.injEq, Addr.mk.injEq, and_true] at q2; subst q2
      obtain ⟨p1, p2⟩ := RRows.get i q3 (getD_some (d := []) (by omega))
      obtain ⟨vs, p3, p4⟩ := RRow.vals (RRow.drop o p2)
      obtain ⟨u, r1, r2⟩ := run_loadVar hu hn (by simpa using p3) (RVals.toCs (m := st.mem) (β := β) p4) hr
      exact ⟨rfl, u, fin ex (by simpa using r1), r2⟩
    · cases hr
  · rename_i cells e
    simp only [List.cons.injEq, and_true] at e
    have hx := ev_ok h x; rw [e] at hx
    simp only [RV, RC, RS] at hx
    obtain ⟨b, o, ex, f1, f2⟩ := hx
    simp only [Option.map_eq_some_iff, Prod.mk.injEq] at hr
    obtain ⟨v', hr, rfl, rfl⟩ := hr
    obtain ⟨vs, p3, p4⟩ := RRow.vals f2
    obtain ⟨u, r1, r2⟩ := run_loadVar hu hn p3 (RVals.toCs (m := st.mem) (β := β) p4) hr
    exact ⟨rfl, u, fin ex r1, r2⟩
  · cases hr

theorem len_ok (h : Rel N w0 im β st a w) {t : TypeId} {x : Operand} {str : Bool} {c : Call} (hc : c.callee = .builtin .len) (ha : c.args.toList = [x]) (ht : c.argTypes[0]? = some t)
    (hd : if str then P.underlying t = some .string else ∃ e, P.underlying t = some (.slice e))
    (hr : runLen str st.mem [ev st.env (cO x)] = some (v, ups)) : Shown P im w β st a (.call c) v ups := by
  have ha' : c.args = #[x] := by rw [← Array.toList_inj]; simpa using ha
  unfold runLen at hr
  split at hr
  · rename_i s e
    simp only [List.cons.injEq, and_true] at e
    have ex := str_of h e
    cases str
    · simp at hr
    simp only [if_true, Option.some.injEq, Prod.mk.injEq] at hr hd
    obtain ⟨rfl, rfl⟩ := hr
    refine ⟨rfl, .int .i64 s.length, fun o ho => ?_, by simp [RV, RC, RS]⟩
    have hs : (⟨⟨s⟩⟩ : ByteArray).size = s.length := rfl
    simp [Yld, execOp, ho, resolve, hc, invoke, builtin, Builtin.len_, ha', ht, ex, run_underlying hd, goInt, hs]
  · rename_i k rows full e
    simp only [List.cons.injEq, and_true] at e
    have hx := ev_ok h x; rw [e] at hx
    simp only [RV, RC, RS] at hx
    obtain ⟨ad, cap, ex, _⟩ := hx
    cases str
    · simp only [Bool.false_eq_true, if_false, Option.some.injEq, Prod.mk.injEq] at hr hd
      obtain ⟨rfl, rfl⟩ := hr
      obtain ⟨e, hd⟩ := hd
      refine ⟨rfl, .int .i64 rows.length, fun o ho => ?_, by simp [RV, RC, RS]⟩
      simp [Yld, execOp, ho, resolve, hc, invoke, builtin, Builtin.len_, ha', ht, ex, run_underlying hd, goInt]
    · simp at hr
  · rename_i l n e
    simp only [List.cons.injEq, and_true] at e
    have hx := ev_ok h x; rw [e] at hx
    cases str
    · simp only [Bool.false_eq_true, if_false, Option.map_eq_some_iff, Prod.mk.injEq] at hr hd
      obtain ⟨⟨k, rows⟩, ho, rfl, rfl⟩ := hr
      obtain ⟨e, hd⟩ := hd
      obtain ⟨g1, g2, _⟩ := ownRows_some ho
      obtain ⟨k2, rows2, f1, f2, ⟨p, q, ex⟩, f4⟩ := hx
      refine ⟨rfl, .int .i64 rows.length, fun o ho => ?_, by simp [RV, RC, RS]⟩
      simp [Yld, execOp, ho, resolve, hc, invoke, builtin, Builtin.len_, ha', ht, ex, run_underlying hd, goInt, g1]
    · simp at hr
  · cases hr

/-! ### Bytes to a string -/
theorem asBytes_vals {k b : Nat} : ∀ {rows : List (List S)} {o : Nat} {s : List UInt8}, asBytes rows = some s → RRows im w k b o rows → k = 1 →
    ∀ j u, (s.map fun c => Value.int .u8 (c.toNat : Int))[j]? = some u → w.cell? ⟨b, o + j, none⟩ = some u
  | [], o, s, h, _, _ => by simp only [asBytes, Option.some.injEq] at h; subst h; simp
  | r :: rs, o, s, h, hr, hk => by
    subst hk
    unfold asBytes at h
    split at h
    · rename_i e; cases e
    · rename_i c r' e
      obtain ⟨rfl, rfl⟩ := List.cons.inj e
      simp only [Option.ite_none_right_eq_some, Option.map_eq_some_iff] at h
      obtain ⟨⟨h0, h1⟩, s', h2, rfl⟩ := h
      simp only [RRows, RRow] at hr
      obtain ⟨_, ⟨⟨cv, hc, hx⟩, _⟩, h3⟩ := hr
      simp only [RS] at hx
      intro j u hj
      cases j with
      | zero =>
        simp only [List.map_cons, List.getElem?_cons_zero, Option.some.injEq] at hj; subst hj
        rw [Nat.add_zero, hc, hx]
        have : (UInt8.ofNat c.toNat).toNat = c.toNat := by simp [UInt8.toNat_ofNat']; omega
        rw [this]; congr 2; omega
      | succ j =>
        have := asBytes_vals h2 h3 rfl j u (by simpa using hj)
        rw [← this]; congr 2; omega
    · cases h

theorem asBytes_length : ∀ {rows : List (List S)} {s : List UInt8}, asBytes rows = some s → s.length = rows.length
  | [], s, h => by simp only [asBytes, Option.some.injEq] at h; subst h; rfl
  | r :: rs, s, h => by
    unfold asBytes at h
    split at h
    · rename_i e; cases e
    · rename_i c r' e
      obtain ⟨rfl, rfl⟩ := List.cons.inj e
      simp only [Option.ite_none_right_eq_some, Option.map_eq_some_iff] at h
      obtain ⟨_, s', h2, rfl⟩ := h
      simp [asBytes_length h2]
    · cases h

theorem forBytes (f : Value → ByteArray → Sem (ForInStep ByteArray)) (hf : ∀ (n : Int) (acc : ByteArray), f (.int .u8 n) acc = pure (.yield (acc.push (UInt8.ofNat n.toNat)))) (s : List UInt8) :
    ∀ (acc : ByteArray), (forIn (m := Sem) (s.map fun c => Value.int .u8 (c.toNat : Int)) acc f).run P w = .ok ⟨acc.data ++ s.toArray⟩ w := by
  induction s with
  | nil => intro acc; simp
  | cons c s ih =>
    intro acc
    simp only [List.map_cons, List.forIn_cons, hf]
    simp only [Sem.run_bind, Sem.run_pure, Result.andThen_ok]
    rw [ih]
    congr 2
    simp

theorem toStr_ok (h : Rel N w0 im β st a w) {s d e : TypeId} {x : Operand} (hs : P.underlying s = some (.slice e)) (he : P.underlying e = some (.int .u8)) (hd : P.underlying d = some .string)
    (hr : runToStr st.mem [ev st.env (cO x)] = some (v, ups)) : Shown P im w β st a (.convert s d x) v ups := by
  unfold runToStr at hr
  split at hr
  · rename_i l n e1
    simp only [List.cons.injEq, and_true] at e1
    have hx := ev_ok h x; rw [e1] at hx
    split at hr
    · rename_i k rows ho
      simp only [Option.ite_none_right_eq_some, Option.map_eq_some_iff, Prod.mk.injEq] at hr
      obtain ⟨hk, sb, hb, rfl, rfl⟩ := hr
      obtain ⟨g1, g2, _⟩ := ownRows_some ho
      obtain ⟨k2, rows2, f1, f2, f3, f4⟩ := hx
      rw [g2] at f1
      simp only [Option.some.injEq, Prod.mk.injEq] at f1
      obtain ⟨rfl, rfl⟩ := f1
      have ex := f4 g1
      have hlen := asBytes_length hb
      obtain ⟨q1, q2⟩ := own_row h.mem ho
      refine ⟨rfl, .string ⟨⟨sb⟩⟩, fun o ho => ?_, by simp [RV, RC, RS]⟩
      cases had : (β l).a with
      | none =>
        have h0 : (β l).cap = 0 := by
          rcases q2 with q2 | ⟨b, q2, _⟩
          · exact q2
          · rw [had] at q2; cases q2
        have hsb : sb = [] := by apply List.eq_nil_of_length_eq_zero; omega
        subst hsb
        rw [had] at ex
        simp [Yld, execOp, ho, ex, convert, run_underlying hs, run_underlying hd, run_underlying he, Conv.bytesToString]
        rfl
      | some ad =>
        rw [had] at ex
        have hcells : ∀ j u, (sb.map fun c => Value.int .u8 (c.toNat : Int))[j]? = some u → w.cell? (ad.add j) = some u := by
          rcases q2 with q2 | ⟨b, q2, q3⟩
          · have hsb : sb = [] := by apply List.eq_nil_of_length_eq_zero; omega
            subst hsb; simp
          · rw [had] at q2; simp only [Option.some.injEq] at q2; subst q2
            intro j u hj
            rw [addr_add]
            exact asBytes_vals hb q3 hk j u hj
        have hl := run_loadCells_list (P := P) w ad _ hcells
        rw [List.length_map, hlen, ← g1] at hl
        simp only [Yld, execOp, ho, ex, convert, Sem.run_bind, run_underlying hs, run_underlying hd, run_underlying he, Conv.bytesToString, Result.andThen_ok, hl]
        rw [← Array.forIn_toList]
        rw [List.toList_toArray, forBytes _ (fun n acc => rfl)]
        simp
    · cases hr
  · cases hr
end
end Go.Ab
