/- Variables, literals, stores. -/
import Derived.Test.YtcnemnehjpaggaaAb9
set_option linter.all false
namespace Go.Ab
open Go Go.RowKit

section
variable {im : Nat → Prop} {w : World} {β : Nat → BI} {P : Program} {N : Nat} {w0 : W0} {st : AS} {a : Act} {v : V} {ups : List (Nat × Obj)}

/-! ### Rows as lists of cells -/
theorem RVals.length : ∀ {xs : List S} {vs : List Value}, RVals im w xs vs → xs.length = vs.length
  | [], [], _ => rfl
  | _ :: _, _ :: _, h => by simp only [RVals] at h; simp [RVals.length h.2]
  | [], _ :: _, h => by simp [RVals] at h
  | _ :: _, [], h => by simp [RVals] at h

theorem RVals.append : ∀ {xs ys : List S} {vs us : List Value}, RVals im w xs vs → RVals im w ys us → RVals im w (xs ++ ys) (vs ++ us)
  | [], _, [], _, _, h => h
  | _ :: _, _, _ :: _, _, h, h' => by simp only [RVals, List.cons_append] at *; exact ⟨h.1, RVals.append h.2 h'⟩
  | [], _, _ :: _, _, h, _ => by simp [RVals] at h
  | _ :: _, _, [], _, h, _ => by simp [RVals] at h

theorem RVals.take : ∀ (n : Nat) {xs : List S} {vs : List Value}, RVals im w xs vs → RVals im w (xs.take n) (vs.take n)
  | 0, _, _, _ => by simp [RVals]
  | _ + 1, [], [], _ => by simp [RVals]
  | n + 1, _ :: _, _ :: _, h => by simp only [RVals, List.take_succ_cons] at *; exact ⟨h.1, RVals.take n h.2⟩
  | _ + 1, [], _ :: _, h => by simp [RVals] at h
  | _ + 1, _ :: _, [], h => by simp [RVals] at h

theorem RVals.drop : ∀ (n : Nat) {xs : List S} {vs : List Value}, RVals im w xs vs → RVals im w (xs.drop n) (vs.drop n)
  | 0, _, _, h => by simpa using h
  | _ + 1, [], [], _ => by simp [RVals]
  | n + 1, _ :: _, _ :: _, h => by simp only [RVals, List.drop_succ_cons] at *; exact RVals.drop n h.2
  | _ + 1, [], _ :: _, h => by simp [RVals] at h
  | _ + 1, _ :: _, [], h => by simp [RVals] at h

theorem RVals.flats {xs : List S} {vs : List Value} (h : RVals im w xs vs) : vs.all flat = true :=
  RCs.flats (β := fun _ => ⟨none, 0, none⟩) (m := fun _ => none) (RVals.toCs h)

theorem asS_ok {m : Nat → Option Obj} : ∀ {xs : List C} {ys : List S} {vs : List Value}, asS xs = some ys → RCs im w β m xs vs → RVals im w ys vs
  | [], ys, [], h, _ => by simp only [asS, Option.some.injEq] at h; subst h; simp [RVals]
  | .s x :: xs, ys, v :: vs, h, hx => by
    simp only [asS, Option.map_eq_some_iff] at h
    obtain ⟨zs, h1, rfl⟩ := h
    simp only [RVals]
    exact ⟨hx.1, asS_ok h1 hx.2⟩
  | .ptr .. :: _, _, _, h, _ => by simp [asS] at h
  | .own .. :: _, _, _, h, _ => by simp [asS] at h
  | .optr .. :: _, _, _, h, _ => by simp [asS] at h
  | [], _, _ :: _, _, h => h.elim
  | .s _ :: _, _, [], _, h => h.elim

theorem rrow_of_vals {b : Nat} {arr : Array Value} {T : TypeId} {fr : Nat × Nat} (hb : w.heap[b]? = some (.cells arr T fr)) : ∀ {row : List S} {o : Nat} {vs : List Value},
    RVals im w row vs → (∀ j u, vs[j]? = some u → arr[o + j]? = some u) → RRow im w b o row
  | [], _, _, _, _ => by simp [RRow]
  | x :: row, o, [], h, _ => by simp [RVals] at h
  | x :: row, o, v :: vs, h, hc => by
    simp only [RVals] at h
    simp only [RRow]
    refine ⟨⟨v, ?_, h.1⟩, rrow_of_vals hb h.2 (fun j u hj => ?_)⟩
    · rw [cell_of_row w b o arr T fr hb]
      simpa using hc 0 v rfl
    · have := hc (j + 1) u (by simpa using hj)
      rw [← this]; congr 1; omega

theorem rrows_of_vals {b k : Nat} {arr : Array Value} {T : TypeId} {fr : Nat × Nat} (hb : w.heap[b]? = some (.cells arr T fr)) : ∀ {rows : List (List S)} {o : Nat} {vs : List Value},
    (∀ r ∈ rows, r.length = k) → RVals im w rows.flatten vs → (∀ j u, vs[j]? = some u → arr[o + j]? = some u) → RRows im w k b o rows
  | [], _, _, _, _, _ => by simp [RRows]
  | r :: rows, o, vs, hk, h, hc => by
    simp only [List.flatten_cons] at h
    have hr := hk r (by simp)
    have h1 := RVals.take r.length h
    have h2 := RVals.drop r.length h
    simp only [List.take_left', List.drop_left'] at h1 h2
    simp only [RRows]
    refine ⟨hr, rrow_of_vals hb h1 (fun j u hj => hc j u ?_), rrows_of_vals hb (fun r' h' => hk r' (by simp [h'])) h2 (fun j u hj => ?_)⟩
    · rw [List.getElem?_take] at hj; split at hj <;> simp_all
    · have := hc (r.length + j) u (by simpa [List.getElem?_drop] using hj)
      rw [← this]; congr 1; omega

theorem vals_of_rrow {b : Nat} {arr : Array Value} {T : TypeId} {fr : Nat × Nat} (hb : w.heap[b]? = some (.cells arr T fr)) : ∀ {row : List S} {o : Nat},
    RRow im w b o row → o + row.length ≤ arr.size ∧ RVals im w row ((arr.toList.drop o).take row.length) ∨ row = []
  | [], o, _ => .inr rfl
  | x :: row, o, h => by
    simp only [RRow] at h
    obtain ⟨⟨c, hc, hx⟩, h2⟩ := h
    rw [cell_of_row w b o arr T fr hb] at hc
    have hlt : o < arr.size := (Array.getElem?_eq_some_iff.1 hc).1
    have hv : arr[o] = c := (Array.getElem?_eq_some_iff.1 hc).2
    have hd : arr.toList.drop o = c :: arr.toList.drop (o + 1) := by
      rw [List.drop_eq_getElem_cons (by simpa using hlt)]; simp [hv]
    refine .inl ?_
    rcases vals_of_rrow hb h2 with ⟨h3, h4⟩ | rfl
    · refine ⟨by simp; omega, ?_⟩
      rw [hd]; simp only [List.length_cons, List.take_succ_cons, RVals]
      exact ⟨hx, h4⟩
    · refine ⟨by simp; omega, ?_⟩
      rw [hd]; simp only [List.length_cons, List.length_nil, List.take_succ_cons, List.take_zero, RVals, and_true]
      exact hx

theorem vals_of_rrows {b k : Nat} {arr : Array Value} {T : TypeId} {fr : Nat × Nat} (hb : w.heap[b]? = some (.cells arr T fr)) : ∀ {rows : List (List S)} {o : Nat}, o ≤ arr.size →
    RRows im w k b o rows → o + rows.length * k ≤ arr.size ∧ (∀ r ∈ rows, r.length = k) ∧ rows.flatten.length = rows.length * k ∧ RVals im w rows.flatten ((arr.toList.drop o).take (rows.length * k))
  | [], o, ho, _ => by simp [RVals, ho]
  | r :: rows, o, ho, h => by
    simp only [RRows] at h
    obtain ⟨h1, h2, h3⟩ := h
    have h5 : o + k ≤ arr.size ∧ RVals im w r ((arr.toList.drop o).take k) := by
      rcases vals_of_rrow hb h2 with ⟨h4, h5⟩ | rfl
      · rw [h1] at h4 h5; exact ⟨h4, h5⟩
      · simp at h1; subst h1; simp [RVals, ho]
    obtain ⟨g1, g2, g3, g4⟩ := vals_of_rrows hb (o := o + k) h5.1 h3
    have e : (rows.length + 1) * k = k + rows.length * k := by rw [Nat.add_mul]; omega
    refine ⟨by simp only [List.length_cons]; rw [e]; omega, fun r' hr' => ?_, by simp only [List.flatten_cons, List.length_append, List.length_cons, h1, g3]; rw [e], ?_⟩
    · rcases List.mem_cons.1 hr' with rfl | hr'
      · exact h1
      · exact g2 r' hr'
    · simp only [List.flatten_cons, List.length_cons]
      rw [e, List.take_add, List.drop_drop]
      exact RVals.append h5.2 g4

/-! ### What an operation that turns memory does -/
/-- The operation goes on to 'next' with a value that bears v, in a world that bears the memory m'. -/
def OpOK (P : Program) (w0 : W0) (im : Nat → Prop) (β : Nat → BI) (m : Nat → Option Obj) (a : Act) (w : World) (o : Oper) (v : V) (m' : Nat → Option Obj) : Prop :=
  ∀ (next : Act → World → Prop) (Q : Exit → Act → World → Prop),
    (∀ u w' im' β', MemOK w0 im' β' m' w' → Ext im im' w w' β β' m m' → RV im' w' β' m' v u → next (a.put o.dst u) w') → o.wp P a w next Q

theorem OpOK.of_run {m m' : Nat → Option Obj} {w' : World} {im' : Nat → Prop} {β' : Nat → BI} {o : Oper} {u : Value} (hr : (execOp a.eval o).run P w = .ok (.value u) w')
    (hm : MemOK w0 im' β' m' w') (he : Ext im im' w w' β β' m m') (hv : RV im' w' β' m' v u) : OpOK P w0 im β m a w o v m' := fun next Q h => by
  unfold Oper.wp
  rw [hr]
  exact h u w' im' β' hm he hv

theorem OpOK.of_skip {m m' : Nat → Option Obj} {w' : World} {im' : Nat → Prop} {β' : Nat → BI} {o : Oper} (hr : (execOp a.eval o).run P w = .ok .skip w')
    (hm : MemOK w0 im' β' m' w') (he : Ext im im' w w' β β' m m') : OpOK P w0 im β m a w o .undef m' := fun next Q h => by
  unfold Oper.wp
  rw [hr]
  exact h _ w' im' β' hm he rfl

theorem Ext.refl (im : Nat → Prop) (w : World) (β : Nat → BI) (m : Nat → Option Obj) : Ext im im w w β β m m :=
  ⟨fun _ h => h, fun _ _ => rfl, fun _ h => ⟨h, rfl⟩, fun _ _ rows h => ⟨rows, h, Nat.le_refl _, fun _ => ⟨rfl, rfl⟩⟩⟩

theorem OpOK.of_shown (h : Rel N w0 im β st a w) {o : Oper} (hs : Shown P im w β st a o.op v ups) : OpOK P w0 im β st.mem a w o v (setAll st.mem ups) := by
  obtain ⟨rfl, u, hy, hv⟩ := hs
  exact .of_run (hy o rfl) h.mem (Ext.refl _ _ _ _) hv

/-- A new variable. -/
theorem new_box (h : Rel N w0 im β st a w) {d : Nat} {ys : List C} {cells : Array Value} {T : TypeId} (hd : st.mem d = none) (hx : RCs im w β st.mem ys cells.toList) :
    ∃ β', MemOK w0 im β' (upd st.mem d (some (.box ys))) (w.alloc (.cells cells T)) ∧ Ext im im w (w.alloc (.cells cells T)) β β' st.mem (upd st.mem d (some (.box ys))) ∧
      RV im (w.alloc (.cells cells T)) β' (upd st.mem d (some (.box ys))) (.c (.ptr d 0)) (.pointer (some ⟨w.heap.size, 0, none⟩)) := by
  have hb := below_alloc w (.cells cells T)
  obtain ⟨_, e1⟩ := h.mem.grow (w' := w.alloc (.cells cells T)) hb (fun _ h => h) (fun b h => .inl h) (fun b hb' => Nat.lt_of_lt_of_le (h.mem.iml b hb') hb.size)
  obtain ⟨g1, g2⟩ := h.mem.add (d := d) (o := .box ys) (bi := ⟨some ⟨w.heap.size, 0, none⟩, 0, none⟩) hd hb (fun b hb' => by
      simp [Owns, upd] at hb'; subst hb'; simp) rfl (fun e2 => ⟨w.heap.size, cells, T, by simp [upd], heap_alloc_new w _, RCs.ext e2 _ _ (RCs.ext e1 _ _ hx)⟩)
  exact ⟨_, g1, g2, by simp [RV, RC, upd, isBox]⟩

theorem alloc_ok (h : Rel N w0 im β st a w) {e : TypeId} {z : List S} {d : Nat} {o : Oper} (ho : o.op = .alloc e) (hz : zeroS P e = some z) (hr : runAlloc z d st.mem [] = some (v, ups)) :
    OpOK P w0 im β st.mem a w o v (setAll st.mem ups) := by
  unfold runAlloc at hr
  simp only at hr
  split at hr
  · rename_i hd
    simp only [Option.some.injEq, Prod.mk.injEq] at hr
    obtain ⟨rfl, rfl⟩ := hr
    obtain ⟨zv, z1, _, z2, z3⟩ := run_zero (P := P) (w := w) hz
    obtain ⟨β', g1, g2, g3⟩ := new_box (T := e) h hd (zero_cells z2 z3)
    exact .of_run (by simp [execOp, ho, Instr.alloc, z1, newVar, newRow]) g1 g2 g3
  · cases hr

theorem bldT_fst (P : Program) (e : TypeId) : (bldT P e).1 = e := by
  unfold bldT
  split
  · split
    · split <;> rfl
    · rfl
  · rfl

theorem allocB_ok (h : Rel N w0 im β st a w) {e : TypeId} {d : Nat} {o : Oper} (ho : o.op = .alloc e) (hb : isBld P e = true) (hr : runAllocB (bldT P e) d st.mem [] = some (v, ups)) :
    OpOK P w0 im β st.mem a w o v (setAll st.mem ups) := by
  unfold runAllocB at hr
  simp only at hr
  split at hr
  · rename_i hd
    simp only [Option.some.injEq, Prod.mk.injEq] at hr
    obtain ⟨rfl, rfl⟩ := hr
    unfold isBld at hb
    simp only [Bool.and_eq_true] at hb
    have hb2 := hb.2
    split at hb2
    · rename_i i hi
      split at hb2
      · rename_i z hiz
        split at hb2
        case h_2 => cases hb2
        rename_i hzl
        have hz' : z = #[.pointer none, .slice none 0 0] := by rw [← Array.toArray_toList (xs := z), hzl]
        subst hz'
        have z1 : (zeroValue e).run P w = .ok (.agg #[.pointer none, .slice none 0 0]) w := by
          simp [zeroValue, typeInfo, hi, hiz]
        have hbw : Below w.heap.size w (w.alloc (.cells #[.pointer none, .slice none 0 0] e)) := (Below.refl _ w).alloc (Nat.le_refl _) _
        obtain ⟨g1, g2⟩ := h.mem.add (d := d) (o := .bld (bldT P e) []) (bi := ⟨some ⟨w.heap.size, 0, none⟩, 0, none⟩) hd hbw (fun b hb' => by
          simp [Owns, upd] at hb'; subst hb'; simp) rfl (fun e2 => ⟨w.heap.size, by simp [upd], .inl ⟨rfl, by simp [upd], none, .inl rfl, by rw [bldT_fst]; exact heap_alloc_new w _⟩⟩)
        exact .of_run (u := .pointer (some ⟨w.heap.size, 0, none⟩)) (by simp [execOp, ho, Instr.alloc, z1, newVar, newRow, Value.cells]) g1 g2 (by simp [RV, RC, upd, isBox, setAll])
      · cases hb2
    · cases hb2
  · cases hr

theorem box_ok (h : Rel N w0 im β st a w) {e : TypeId} {x : Operand} {n d : Nat} {o : Oper} (ho : o.op = .box e x) (hr : runBox n d st.mem [ev st.env (cO x)] = some (v, ups)) :
    OpOK P w0 im β st.mem a w o v (setAll st.mem ups) := by
  unfold runBox at hr
  simp only at hr
  split at hr
  · rename_i ys hd hc
    simp only [Option.ite_none_right_eq_some, Option.some.injEq, Prod.mk.injEq] at hr
    obtain ⟨_, rfl, rfl⟩ := hr
    obtain ⟨β', g1, g2, g3⟩ := new_box (T := e) h hd (cellsV_ok (ev_ok h x) hc)
    exact .of_run (by simp [execOp, ho, Instr.box, newVar, newRow]) g1 g2 g3
  · cases hr

/-! ### A literal of a slice -/
theorem chunks_flatten {α : Type} (k : Nat) : ∀ (n : Nat) (l : List α), l.length = n * k → (chunks k n l).flatten = l ∧ (∀ r ∈ chunks k n l, r.length = k) ∧ (chunks k n l).length = n
  | 0, l, h => by simp at h; subst h; simp [chunks]
  | n + 1, l, h => by
    have h1 : (n + 1) * k = k + n * k := by rw [Nat.add_mul]; omega
    rw [h1] at h
    obtain ⟨g1, g2, g3⟩ := chunks_flatten k n (l.drop k) (by simp; omega)
    simp only [chunks, List.flatten_cons, g1, List.take_append_drop, List.mem_cons, List.length_cons, g3, true_and, and_true]
    rintro r (rfl | hr)
    · simp; omega
    · exact g2 r hr

theorem rep_get {α : Type} (l : List α) : ∀ (n i : Nat), i < n * l.length → (List.replicate n l).flatten[i]? = l[i % l.length]?
  | 0, i, h => by simp at h
  | n + 1, i, h => by
    simp only [List.replicate_succ, List.flatten_cons, List.getElem?_append]
    have h1 : (n + 1) * l.length = l.length + n * l.length := by rw [Nat.add_mul]; omega
    rw [h1] at h
    split
    · rename_i hlt; rw [Nat.mod_eq_of_lt hlt]
    · rename_i hge
      rw [rep_get l n _ (by omega), ← Nat.mod_eq_sub_mod (by omega)]

theorem rep_cells (z : Array Value) (n : Nat) (hz : 0 < z.size) : ((Array.range (n * z.size)).map (z[· % z.size]!)).toList = (List.replicate n z.toList).flatten := by
  apply List.ext_getElem?
  intro i
  by_cases hi : i < n * z.size
  · have h1 := rep_get z.toList n i (by simpa using hi)
    rw [h1]
    have hm : i % z.size < z.size := Nat.mod_lt _ hz
    simp [hi, hm]
  · have hl : (List.replicate n z.toList).flatten.length = n * z.size := by simp
    rw [List.getElem?_eq_none (by simp; omega), List.getElem?_eq_none (by rw [hl]; omega)]

theorem RCs.rep {m : Nat → Option Obj} {xs : List C} {vs : List Value} (h : RCs im w β m xs vs) : ∀ n, RCs im w β m (List.replicate n xs).flatten (List.replicate n vs).flatten
  | 0 => by simp [RCs]
  | n + 1 => by simp only [List.replicate_succ, List.flatten_cons]; exact RCs.append h (RCs.rep h n)

theorem new_row {m : Nat → Option Obj} {w' w2 : World} {d k cap : Nat} (h : MemOK w0 im β m w) (hb : Below w.heap.size w w') (hd : m d = none) {rows : List (List S)} {cells : Array Value} {T : TypeId}
    (hw2 : w2 = w'.alloc (.cells cells T)) (hk : ∀ r ∈ rows, r.length = k) (hsz : cells.size = cap * k) (hle : rows.length ≤ cap)
    (hv : ∃ vs : List Value, RVals im w rows.flatten vs ∧ ∀ (j : Nat) (u : Value), vs[j]? = some u → cells[j]? = some u) :
    ∃ β', MemOK w0 im β' (upd m d (some (.row k rows))) w2 ∧ Ext im im w w2 β β' m (upd m d (some (.row k rows))) ∧
      RV im w2 β' (upd m d (some (.row k rows))) (.c (.own d rows.length)) (.slice (some ⟨w'.heap.size, 0, none⟩) rows.length cap) := by
  subst hw2
  have hb2 : Below w.heap.size w (w'.alloc (.cells cells T)) := hb.alloc hb.size _
  obtain ⟨_, e1⟩ := h.grow (w' := w'.alloc (.cells cells T)) hb2 (fun _ h => h) (fun b h => .inl h) (fun b hb' => Nat.lt_of_lt_of_le (h.iml b hb') hb2.size)
  obtain ⟨vs, hv1, hv2⟩ := hv
  obtain ⟨g1, g2⟩ := h.add (d := d) (o := .row k rows) (bi := ⟨some ⟨w'.heap.size, 0, none⟩, cap, none⟩) hd hb2 (fun b hb' => by
      simp [Owns, upd] at hb'; obtain ⟨rfl, _⟩ := hb'; exact ⟨hb.size, by simp⟩) rfl (fun e2 => by
        refine ⟨by simpa [upd] using hle, .inr ⟨w'.heap.size, cells, T, by simp [upd], heap_alloc_new w' _, by simpa [upd] using hsz, ?_⟩⟩
        exact rrows_of_vals (heap_alloc_new w' _) hk (RVals.mono e2.hi e2.hw _ _ (RVals.mono e1.hi e1.hw _ _ hv1)) (fun j u hj => by simpa using hv2 j u hj))
  refine ⟨_, g1, g2, k, rows, by simp [upd, rowOf], Nat.le_refl _, ⟨_, _, rfl⟩, fun _ => by simp [upd]⟩

theorem layParts_length : ∀ (xs : List C) (pl : List (Nat × Nat)) (vals : List V) (ys : List C), layParts xs pl vals = some ys → ys.length = xs.length
  | xs, [], [], ys, h => by simp only [layParts, Option.some.injEq] at h; rw [h]
  | xs, (off, n) :: pl, v :: vals, ys, h => by
    simp only [layParts] at h
    split at h
    · rename_i zs _
      simp only [Option.ite_none_right_eq_some] at h
      obtain ⟨⟨h1, h2⟩, h⟩ := h
      rw [layParts_length _ _ _ _ h]
      simp [splice]; omega
    · cases h
  | xs, [], _ :: _, ys, h => by simp [layParts] at h
  | xs, _ :: _, [], ys, h => by simp [layParts] at h

theorem bslice_ok (h : Rel N w0 im β st a w) {t e : TypeId} {len k d : Nat} {z : List S} {parts : Array (Nat × Operand)} {o : Oper} (ho : o.op = .buildSlice t len parts) (ht : P.underlying t = some (.slice e))
    (hk : sizeT P e = some k) (hz : zeroS P e = some z) (hlim : len * k ≤ 16777216) (hk0 : 0 < k) (hzk : z.length = k)
    (hr : runBslice k len z (parts.toList.map (·.1)) d st.mem (parts.toList.map fun p => ev st.env (cO p.2)) = some (v, ups)) :
    OpOK P w0 im β st.mem a w o v (setAll st.mem ups) := by
  unfold runBslice at hr
  obtain ⟨zv, z1, _, z2, z3⟩ := run_zero (P := P) (w := w) hz
  have hzs : zv.cells.size = k := by rw [← hzk, z3]; simp
  have hx0 := RCs.rep (zero_cells (im := im) (w := w) (β := β) (m := st.mem) z2 z3) len
  rw [← rep_cells zv.cells len (by omega), hzs] at hx0
  split at hr
  · rename_i xs hl
    obtain ⟨cells', g1, g2⟩ := fill_ok (ev_ok h) (fun i => some (i * k, k)) parts.toList _ _ xs _ (by simp [List.map_map, Function.comp_def]) hl hx0
    have g1' : Instr.fill (fun i => some (i * k, k)) ((Array.range (len * k)).map (zv.cells[· % zv.cells.size]!)) (parts.map fun (i, x) => (i, a.eval x)).toList = some cells' := by
      rw [Array.toList_map, hzs]; exact g1
    have hrun : (execOp a.eval o).run P w = .ok (.value (.slice (some ⟨w.heap.size, 0, none⟩) len len)) (w.alloc (.cells cells' e)) := by
      have hlim' : ¬ len * k > 2 ^ 24 := by omega
      by_cases h0 : len * k = 0
      · have e0 : ∀ f : Nat → Value, (Array.range (len * k)).map f = #[] := fun f => by rw [h0]; simp
        rw [e0] at g1'
        simp only [h0] at e0
        simp only [execOp, ho, Instr.buildSlice, Sem.run_bind, run_underlying ht, Result.andThen_ok, run_sizeOf hk, Sem.run_pure, h0, if_true, show ¬ (0 > 2 ^ 24) from by decide, if_false, e0, g1', newRow, run_newObj_alloc]
      · simp only [execOp, ho, Instr.buildSlice, Sem.run_bind, run_underlying ht, Result.andThen_ok, run_sizeOf hk, if_neg hlim', Sem.run_pure, h0, if_false, z1, g1', newRow, run_newObj_alloc]
    have hlay : xs.length = len * k := by
      rw [layParts_length _ _ _ _ hl]
      simp [hzk]
    split at hr
    · rename_i ys hys
      have hvals := asS_ok hys g2
      split at hr
      · rename_i hlen0
        subst hlen0
        simp only [Option.some.injEq, Prod.mk.injEq] at hr
        obtain ⟨rfl, rfl⟩ := hr
        have hb := below_alloc w (.cells cells' e)
        obtain ⟨m1, e1⟩ := h.mem.grow (w' := w.alloc (.cells cells' e)) hb (fun _ h => h) (fun b h => .inl h) (fun b hb' => Nat.lt_of_lt_of_le (h.mem.iml b hb') hb.size)
        exact .of_run hrun m1 e1 (by simp only [RV, RC, RS]; exact ⟨_, 0, rfl, by simp, by simp, by simp⟩)
      · split at hr
        · rename_i hd
          simp only [Option.some.injEq, Prod.mk.injEq] at hr
          obtain ⟨rfl, rfl⟩ := hr
          have hylen : ys.length = len * k := by rw [RVals.length hvals, ← RCs.length g2, hlay]
          obtain ⟨c1, c2, c3⟩ := chunks_flatten k len ys hylen
          obtain ⟨β', m1, e1, r1⟩ := new_row h.mem (Below.refl _ _) hd (k := k) (cap := len) (rows := chunks k len ys) (cells := cells') (T := e) rfl c2
            (by rw [← Array.length_toList, ← RCs.length g2, hlay]) (by omega) ⟨_, by rw [c1]; exact hvals, fun j u hj => by simpa using hj⟩
          rw [c3] at r1
          exact .of_run hrun m1 e1 r1
        · cases hr
    · cases hr
  · cases hr
end
end Go.Ab
