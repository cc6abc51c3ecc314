/- Stores; append. -/
import Derived.Test.YtcnemnehjpaggaaAb10
set_option linter.all false
namespace Go.Ab
open Go Go.RowKit

section
variable {im : Nat → Prop} {w : World} {β : Nat → BI} {P : Program} {N : Nat} {w0 : W0} {st : AS} {a : Act} {v : V} {ups : List (Nat × Obj)}

theorem below_setRow {B b : Nat} (w : World) (cs : Array Value) (h : B ≤ b) : Below B w (w.setRow b cs) :=
  ⟨rfl, rfl, rfl, by simp, fun k hk => setRow_other w b k cs (by omega)⟩

theorem oneCell_of_flat {v : Value} (h : flat v = true) : v.oneCell' = true := by cases v <;> first | rfl | simp [flat] at h

/-- One thing's block is written. -/
theorem MemOK.write {m : Nat → Option Obj} {l b : Nat} {o o' : Obj} {old new : Array Value} {T : TypeId} (h : MemOK w0 im β m w) (hl : m l = some o) (hlo : loose o = true) (hlo' : loose o' = true)
    (hO : ∀ b', Owns β (upd m l (some o')) l b' ↔ Owns β m l b') (hb : Owns β m l b) (hheap : w.heap[b]? = some (.cells old T (0, 0)))
    (hext : Ext im im w (w.setRow b new) β β m (upd m l (some o')))
    (ho : RObj im (w.setRow b new) β (upd m l (some o')) l o') : MemOK w0 im β (upd m l (some o')) (w.setRow b new) := by
  have hbb := h.own l o b hl hb
  refine h.change hext rfl (fun _ _ => rfl) (fun l' b' hl' hb' => setRow_other w b b' new ?_) (by simp) ho (fun b' hb' => ?_) (fun b' hb' => by simpa using h.iml b' hb') (fun _ _ _ _ hi => hi) (h.below.trans (below_setRow w new hbb.1)) (fun _ h _ => h)
  · intro e; subst e; exact hl' (h.dis l' l b' hb' hb)
  · have hb'' := (hO b').1 hb'
    obtain ⟨g1, g2, g3⟩ := h.own l o b' hl hb''
    refine ⟨g1, by simpa using g2, fun l' hl' hc => hl' (h.dis l' l b' hc hb''), ?_⟩
    rw [hlo] at g3
    rw [hlo']; exact g3

theorem ext_write {m : Nat → Option Obj} {l b : Nat} {o o' : Obj} {new : Array Value} (h : MemOK w0 im β m w) (hl : m l = some o) (hlo : loose o = true) (hb : Owns β m l b)
    (hbox : isBox (some o) = true → isBox (some o') = true) (hrow : ∀ k rows, rowOf (some o) = some (k, rows) → ∃ rows', rowOf (some o') = some (k, rows') ∧ rows.length ≤ rows'.length) :
    Ext im im w (w.setRow b new) β β m (upd m l (some o')) := by
  have hbb := h.own l o b hl hb
  refine ⟨fun _ h => h, fun b' hb' => setRow_other w b b' new ?_, fun l' hl' => ?_, fun l' k rows hr => ?_⟩
  · intro e; subst e; exact (hbb.2.2.1 hlo) hb'
  · by_cases e : l' = l
    · subst e; rw [hl] at hl'; exact ⟨by simpa [upd] using hbox hl', rfl⟩
    · simp [upd, e, hl']
  · by_cases e : l' = l
    · subst e; rw [hl] at hr
      obtain ⟨rows', g1, g2⟩ := hrow k rows hr
      exact ⟨rows', by simpa [upd] using g1, g2, fun _ => ⟨rfl, rfl⟩⟩
    · exact ⟨rows, by simp [upd, e, hr], Nat.le_refl _, fun _ => ⟨rfl, rfl⟩⟩

theorem splice_length {α : Type} {xs ys : List α} {o : Nat} (h : o + ys.length ≤ xs.length) : (splice xs o ys).length = xs.length := by
  simp [splice]; omega

theorem splice_take {α : Type} {xs ys : List α} {o n : Nat} (h : o + ys.length ≤ n) : splice (xs.take n) o ys = (splice xs o ys).take n ∨ xs.length < o + ys.length := by
  by_cases hx : xs.length < o + ys.length
  · exact .inr hx
  refine .inl ?_
  unfold splice
  have h1 : (xs.take n).take o = xs.take o := by rw [List.take_take]; congr 1; omega
  rw [h1, List.append_assoc, List.append_assoc, List.take_append, List.take_append]
  have h2 : (xs.take o).length = o := by simp; omega
  rw [h2, List.take_of_length_le (by omega : (xs.take o).length ≤ n), List.take_of_length_le (by omega : ys.length ≤ n - o), List.drop_take]
  congr 3
  omega

theorem flatten_set {α : Type} {k : Nat} : ∀ {rows : List (List α)} {i o : Nat} {zs : List α}, (∀ r ∈ rows, r.length = k) → i < rows.length → o + zs.length ≤ k →
    (rows.set i (splice (rows.getD i []) o zs)).flatten = splice rows.flatten (i * k + o) zs
  | r :: rows, 0, o, zs, h, _, ho => by
    have hr := h r (by simp)
    simp only [List.set_cons_zero, List.getD_cons_zero, List.flatten_cons, Nat.zero_mul, Nat.zero_add, splice]
    rw [List.take_append_of_le_length (by omega), List.drop_append_of_le_length (by omega)]
    simp
  | r :: rows, i + 1, o, zs, h, hi, ho => by
    have hr := h r (by simp)
    have ih := flatten_set (rows := rows) (i := i) (o := o) (zs := zs) (fun r' h' => h r' (by simp [h'])) (by simpa using hi) ho
    have e : (i + 1) * k + o = r.length + (i * k + o) := by rw [Nat.add_mul, hr]; omega
    simp only [List.set_cons_succ, List.getD_cons_succ, List.flatten_cons, ih]
    rw [e]
    simp only [splice]
    rw [List.take_length_add_append, show r.length + (i * k + o) + zs.length = r.length + (i * k + o + zs.length) by omega, List.drop_length_add_append]
    simp

theorem RVals.splice {xs ys : List S} {vs us : List Value} {o : Nat} (h : RVals im w xs vs) (h' : RVals im w ys us) : RVals im w (Ab.splice xs o ys) (Ab.splice vs o us) := by
  unfold Ab.splice
  rw [RVals.length h']
  exact RVals.append (RVals.append (RVals.take o h) h') (RVals.drop _ h)

theorem RCs.splice {m : Nat → Option Obj} {xs ys : List C} {vs us : List Value} {o : Nat} (h : RCs im w β m xs vs) (h' : RCs im w β m ys us) : RCs im w β m (Ab.splice xs o ys) (Ab.splice vs o us) := by
  unfold Ab.splice
  rw [RCs.length h']
  exact RCs.append (RCs.append (RCs.take o h) h') (RCs.drop _ h)

theorem store_ok (h : Rel N w0 im β st a w) {t : TypeId} {x y : Operand} {n : Nat} {o : Oper} (ho : o.op = .store t x y) (hn : sizeT P t = some n)
    (hr : runStore n st.mem [ev st.env (cO x), ev st.env (cO y)] = some (v, ups)) : OpOK P w0 im β st.mem a w o v (setAll st.mem ups) := by
  have run : ∀ {b off : Nat} {arr : Array Value} {T : TypeId}, a.eval x = .pointer (some ⟨b, off, none⟩) → w.heap[b]? = some (.cells arr T (0, 0)) → (a.eval y).cells.size = n → off + n ≤ arr.size → (a.eval y).cells.toList.all flat = true →
      (execOp a.eval o).run P w = .ok .skip (w.setRow b (splice arr.toList off (a.eval y).cells.toList).toArray) := fun {b off arr T} ex hb hsz hle hfl => by
    have hst := run_storeCells_at (P := P) b off T (a.eval y).cells.toList 0 arr w hb (by simp; omega) (fun u hu => oneCell_of_flat (List.all_eq_true.1 hfl u hu))
    simp only [Nat.add_zero] at hst
    simp only [execOp, ho, Instr.storeAt, ex, Instr.sureAddr, storeVar, Sem.run_bind, Sem.run_pure, Result.andThen_ok, run_sizeOf hn, hsz, ne_eq, not_true, if_false, hst, splice]
  unfold runStore at hr
  split at hr
  · rename_i l off yv e
    simp only [List.cons.injEq, and_true] at e
    obtain ⟨e1, e2⟩ := e
    have hx := ev_ok h x; rw [e1] at hx
    obtain ⟨_, b, hb, ex⟩ := hx
    split at hr
    · rename_i cells ys hl hc
      simp only [Option.ite_none_right_eq_some, Option.some.injEq, Prod.mk.injEq] at hr
      obtain ⟨⟨g1, g2⟩, rfl, rfl⟩ := hr
      subst e2
      have hcy := cellsV_ok (ev_ok h y) hc
      obtain ⟨b', arr, T, q1, q2, q3⟩ := h.mem.obj _ _ hl
      rw [hb] at q1; simp only [Option.some.injEq, Addr.mk.injEq, and_true] at q1; subst q1
      have hlen := RCs.length hcy
      have hlen' := RCs.length q3
      simp only [Array.length_toList] at hlen hlen'
      have hrun := run ex q2 (by omega) (by omega) (RCs.flats hcy)
      have hown : Owns β st.mem l b := by simp [Owns, hl, hb]
      have hext := ext_write (o' := .box (splice cells off ys)) (new := (splice arr.toList off (a.eval y).cells.toList).toArray) h.mem hl rfl hown (fun _ => rfl) (fun k rows hr => by simp [rowOf] at hr)
      refine .of_skip hrun (h.mem.write hl rfl rfl (fun b' => by simp [Owns, hl, upd]) hown q2 hext ?_) hext
      refine ⟨b, _, T, hb, setRow_heap w b _ _ _ _ q2, ?_⟩
      exact RCs.splice (RCs.ext hext _ _ q3) (RCs.ext hext _ _ hcy)
    · cases hr
  · rename_i l len i off yv e
    simp only [List.cons.injEq, and_true] at e
    obtain ⟨e1, e2⟩ := e
    have hx := ev_ok h x; rw [e1] at hx
    split at hr
    · rename_i k rows ys hl hc
      split at hr
      · rename_i zs hzs
        simp only [Option.ite_none_right_eq_some, Option.some.injEq, Prod.mk.injEq] at hr
        obtain ⟨⟨g1, g2, g3, g4⟩, rfl, rfl⟩ := hr
        subst e2
        have hcy := cellsV_ok (ev_ok h y) hc
        have hvy := asS_ok hzs hcy
        obtain ⟨k2, rows2, f1, f2, f3, f4⟩ := hx
        simp only [rowOf, hl, Option.some.injEq, Prod.mk.injEq] at f1
        obtain ⟨rfl, rfl⟩ := f1
        obtain ⟨f5, b, hb, ex⟩ := f4 g2
        obtain ⟨q0, q1⟩ := h.mem.obj _ _ hl
        have hcap : (β l).cap ≠ 0 := by omega
        rcases q1 with q1 | ⟨b', arr, T, q1, q2, q3, q4⟩
        · exact absurd q1 hcap
        rw [hb] at q1; simp only [Option.some.injEq, Addr.mk.injEq, and_true] at q1; subst q1
        obtain ⟨r1, r2, r3, r4⟩ := vals_of_rrows q2 (Nat.zero_le _) q4
        have hlen := RVals.length hvy
        simp only [Array.length_toList] at hlen
        have hin : i * k + off + n ≤ rows.length * k := by
          have : (i + 1) * k ≤ rows.length * k := Nat.mul_le_mul_right k g3
          rw [Nat.add_mul] at this; omega
        have hrun := run ex q2 (by omega) (by omega) (RVals.flats hvy)
        have hown : Owns β st.mem l b := by simp [Owns, hl, hb, hcap]
        have hext := ext_write (o' := .row k (rows.set i (splice (rows.getD i []) off zs))) (new := (splice arr.toList (i * k + off) (a.eval y).cells.toList).toArray) h.mem hl rfl hown (fun hh => by simp [isBox] at hh)
          (fun k' rows' hr => by simp only [rowOf, Option.some.injEq, Prod.mk.injEq] at hr; obtain ⟨rfl, rfl⟩ := hr; exact ⟨_, rfl, by simp⟩)
        refine .of_skip hrun (h.mem.write hl rfl rfl (fun b' => by simp [Owns, hl, upd]) hown q2 hext ?_) hext
        refine ⟨by simpa using q0, .inr ⟨b, _, T, hb, setRow_heap w b _ _ _ _ q2, ?_, ?_⟩⟩
        · have : (splice arr.toList (i * k + off) (a.eval y).cells.toList).length = arr.toList.length := splice_length (by simp; omega)
          simp [this, q3]
        · refine rrows_of_vals (setRow_heap w b _ _ _ _ q2) (vs := splice (arr.toList.take (rows.length * k)) (i * k + off) (a.eval y).cells.toList) (fun r hr => ?_) ?_ (fun j u hj => ?_)
          · rcases List.mem_or_eq_of_mem_set hr with hr | rfl
            · exact r2 r hr
            · have hrow : (rows.getD i []).length = k := r2 _ (by rw [List.getD_eq_getElem?_getD, List.getElem?_eq_getElem g3]; simp)
              rw [splice_length (by omega), hrow]
          · rw [flatten_set r2 g3 (by omega)]
            have r4' : RVals im w rows.flatten (arr.toList.take (rows.length * k)) := by simpa using r4
            exact RVals.splice (RVals.mono hext.hi hext.hw _ _ r4') (RVals.mono hext.hi hext.hw _ _ hvy)
          · have hst := splice_take (xs := arr.toList) (ys := (a.eval y).cells.toList) (o := i * k + off) (n := rows.length * k) (by simp; omega)
            rcases hst with hst | hst
            · rw [hst, List.getElem?_take] at hj
              split at hj
              · simpa using hj
              · cases hj
            · simp at hst; omega
      · cases hr
    · cases hr
  · cases hr

/-! ### Append -/
theorem RRows.vals {k b : Nat} : ∀ {rows : List (List S)} {o : Nat}, RRows im w k b o rows →
    ∃ vs : List Value, (∀ (j : Nat) (u : Value), vs[j]? = some u → w.cell? ⟨b, o + j, none⟩ = some u) ∧ RVals im w rows.flatten vs ∧ (∀ r ∈ rows, r.length = k) ∧ vs.length = rows.length * k
  | [], o, _ => ⟨[], by simp, by simp [RVals], by simp, by simp⟩
  | r :: rows, o, h => by
    simp only [RRows] at h
    obtain ⟨h1, h2, h3⟩ := h
    obtain ⟨vs, g1, g2⟩ := RRow.vals h2
    obtain ⟨us, g3, g4, g5, g6⟩ := RRows.vals h3
    have hl := RVals.length g2
    refine ⟨vs ++ us, fun j u hj => ?_, by simp only [List.flatten_cons]; exact RVals.append g2 g4, fun r' hr' => ?_, by simp [g6, ← hl, h1, Nat.add_mul, Nat.add_comm]⟩
    · rw [List.getElem?_append] at hj
      split at hj
      · exact g1 j u hj
      · have := g3 _ u hj
        rw [← this]; congr 2; omega
    · rcases List.mem_cons.1 hr' with rfl | hr'
      · exact h1
      · exact g5 r' hr'

theorem firstCells_slice {k n : Nat} {ad : Option Addr} {cap : Nat} {vs : List Value} (hl : vs.length = n * k) (hc : vs ≠ [] → ∃ b o, ad = some ⟨b, o, none⟩ ∧ ∀ (j : Nat) (u : Value), vs[j]? = some u → w.cell? ⟨b, o + j, none⟩ = some u) {len : Nat} :
    (Builtin.firstCells k n (.slice ad len cap)).run P w = .ok vs.toArray w := by
  cases ad with
  | none =>
    have : vs = [] := by
      by_cases hv : vs = []
      · exact hv
      · obtain ⟨b, o, h, _⟩ := hc hv; cases h
    subst this
    simp [Builtin.firstCells]
  | some ad =>
    have hcells : ∀ (j : Nat) (u : Value), vs[j]? = some u → w.cell? (ad.add j) = some u := by
      intro j u hj
      obtain ⟨b, o, h, h2⟩ := hc (by intro e; subst e; simp at hj)
      simp only [Option.some.injEq] at h; subst h
      rw [addr_add]; exact h2 j u hj
    have := run_loadCells_list (P := P) w ad vs hcells
    rw [hl] at this
    simpa [Builtin.firstCells] using this

/-- What is appended: how many rows, and their cells, in every world with this heap. -/
theorem rows_src (h : Rel N w0 im β st a w) {y : Operand} {str : Bool} {k : Nat} {ys : List (List S)} (hy : rowsOf str st.mem k (ev st.env (cO y)) = some ys) :
    (∃ vs : List Value, RVals im w ys.flatten vs ∧ (∀ r ∈ ys, r.length = k) ∧ vs.length = ys.length * k ∧ vs.all flat = true ∧ (∀ w2 : World, w2.heap = w.heap → (Builtin.firstCells k ys.length (a.eval y)).run P w2 = .ok vs.toArray w2)) ∧
    (∀ w2 : World, (Builtin.lenOf (a.eval y)).run P w2 = .ok ys.length w2) := by
  have hcell : ∀ {w2 : World} {ad : Addr}, w2.heap = w.heap → w2.cell? ad = w.cell? ad := fun {w2 ad} e => by simp only [World.cell?, e]
  unfold rowsOf at hy
  split at hy
  · rename_i k' rows full e
    split at hy
    · cases hy
    simp only [Option.ite_none_right_eq_some, Option.some.injEq] at hy
    obtain ⟨hk, rfl⟩ := hy
    have hx := ev_ok h y; rw [e] at hx
    simp only [RV, RC, RS] at hx
    obtain ⟨ad, cap, ex, _, _, c3⟩ := hx
    refine ⟨?_, fun w2 => by simp [ex, Builtin.lenOf]⟩
    by_cases hr : rows = []
    · subst hr
      exact ⟨[], by simp [RVals], by simp, by simp, by simp, fun w2 _ => by rw [ex]; exact firstCells_slice (by simp) (by simp)⟩
    · obtain ⟨b, o, rfl, i1, i2⟩ := c3 hr
      have hk' := hk.resolve_right hr
      subst hk'
      obtain ⟨vs, g1, g2, g3, g4⟩ := RRows.vals i2
      exact ⟨vs, g2, g3, g4, RVals.flats g2, fun w2 e2 => by rw [ex]; exact firstCells_slice g4 (fun _ => ⟨b, o, rfl, fun j u hj => by rw [hcell e2]; exact g1 j u hj⟩)⟩
  · rename_i l n e
    split at hy
    · cases hy
    split at hy
    · rename_i k' rows ho
      simp only [Option.ite_none_right_eq_some, Option.some.injEq] at hy
      obtain ⟨rfl, rfl⟩ := hy
      have hx := ev_ok h y; rw [e] at hx
      obtain ⟨g1, g2, _⟩ := ownRows_some ho
      obtain ⟨k2, rows2, f1, f2, f3, f4⟩ := hx
      rw [g2] at f1
      simp only [Option.some.injEq, Prod.mk.injEq] at f1
      obtain ⟨rfl, rfl⟩ := f1
      have ex := f4 g1
      obtain ⟨q1, q2⟩ := own_row h.mem ho
      refine ⟨?_, fun w2 => by simp [ex, Builtin.lenOf, g1]⟩
      rcases q2 with q2 | ⟨b, q2, q3⟩
      · have hr : rows = [] := by apply List.eq_nil_of_length_eq_zero; omega
        subst hr
        exact ⟨[], by simp [RVals], by simp, by simp, by simp, fun w2 _ => by rw [ex]; exact firstCells_slice (by simp) (by simp)⟩
      · obtain ⟨vs, p1, p2, p3, p4⟩ := RRows.vals q3
        exact ⟨vs, p2, p3, p4, RVals.flats p2, fun w2 e2 => by rw [ex, q2]; exact firstCells_slice p4 (fun _ => ⟨b, 0, rfl, fun j u hj => by rw [hcell e2]; exact p1 j u hj⟩)⟩
    · cases hy
  · rename_i s e
    split at hy
    · simp only [Option.ite_none_right_eq_some, Option.some.injEq] at hy
      obtain ⟨rfl, rfl⟩ := hy
      have ex := str_of h e
      have hs : (⟨⟨s⟩⟩ : ByteArray).size = s.length := rfl
      refine ⟨⟨s.map fun c => .int .u8 (c.toNat : Int), ?_, by simp, by simp, by simp [flat], fun w2 _ => ?_⟩, fun w2 => by simp [ex, Builtin.lenOf, hs]⟩
      · clear hs ex e
        induction s with
        | nil => simp [RVals]
        | cons c s ih => simp only [List.map_cons, List.flatten_cons, List.singleton_append, RVals, RS, true_and]; exact ih
      · rw [ex]
        simp only [Builtin.firstCells, List.length_map, Sem.run_pure]
        congr 1
        apply Array.ext'
        simp [ByteArray.data_extract]
    · cases hy
  · cases hy

theorem run_append_fit {t u e : TypeId} {ty : TypeId} {k sl cap n : Nat} {y : Value} {base : Option Addr} {new : List Value} (ht : P.underlying t = some (.slice e)) (hk : sizeT P e = some k)
    (hu : P.underlying u = some .string ∨ ∃ e', P.underlying u = some (.slice e')) (hlen : (Builtin.lenOf y).run P w = .ok n w) (hnew : (Builtin.firstCells k n y).run P w = .ok new.toArray w) (hfit : sl + n ≤ cap)
    {w' : World} (hst : (match base with | some ad => (storeCells (ad.add (sl * k)) new).run P w | none => .ok () w) = .ok () w') :
    (Builtin.append_ #[t, u] ty #[.slice base sl cap, y]).run P w = .ok (.slice base (sl + n) cap) w' := by
  cases base with
  | none =>
    simp only [Result.ok.injEq, true_and] at hst; subst hst
    rcases hu with hu | ⟨e', hu⟩ <;> simp [Builtin.append_, run_underlying ht, run_underlying hu, run_sizeOf hk, hlen, hfit, hnew]
  | some ad =>
    simp only at hst
    rcases hu with hu | ⟨e', hu⟩ <;> simp [Builtin.append_, run_underlying ht, run_underlying hu, run_sizeOf hk, hlen, hfit, hnew, hst]

theorem run_append_grow {t u e : TypeId} {ty : TypeId} {k bytes sl cap n : Nat} {y : Value} {base : Option Addr} {old new : List Value} {zv : Value} (ht : P.underlying t = some (.slice e)) (hk : sizeT P e = some k) (hby : bytesT P e = some bytes) (hb0 : 0 < bytes)
    (hu : P.underlying u = some .string ∨ ∃ e', P.underlying u = some (.slice e')) (hz : (∃ i, P.info? e = some i ∧ i.zero = some zv)) (hlen : (Builtin.lenOf y).run P w = .ok n w)
    (hold : (Builtin.firstCells k sl (.slice base sl cap)).run P w.drew = .ok old.toArray w.drew) (hnew : (Builtin.firstCells k n y).run P w.drew = .ok new.toArray w.drew)
    (hgrow : cap < sl + n) (hbound : (sl + n) * bytes ≤ 140737488355328) :
    ∃ newCap, sl + n ≤ newCap ∧ (Builtin.append_ #[t, u] ty #[.slice base sl cap, y]).run P w =
      .ok (.slice (some ⟨w.heap.size, 0, none⟩) (sl + n) newCap) (w.drew.alloc (.cells (old.toArray ++ new.toArray ++ Builtin.zeroCells zv.cells (newCap - (sl + n))) e)) := by
  have hfit := growslice_fits hgrow hbound
  have hnf : ¬ sl + n ≤ cap := by omega
  have hng : ¬ Builtin.nextslicecap (sl + n) cap * bytes > 2 ^ 48 := by omega
  obtain ⟨i, hi, hzv⟩ := hz
  have hbi : i.bytes = bytes := by simpa [bytesT, hi] using hby
  refine ⟨(Question.appendCap (sl + n) cap e).cut (w.tape w.drawn (Question.appendCap (sl + n) cap e)), by simp [Question.cut], ?_⟩
  generalize hq : (Question.appendCap (sl + n) cap e).cut (w.tape w.drawn (Question.appendCap (sl + n) cap e)) = nc
  have hask : ∀ (b : Nat) (w2 : World), (askRoom b).run P w2 = .ok () w2 := fun b w2 => by unfold askRoom; split <;> simp [mark, Sem.run]
  have hf : (Question.appendCap (sl + n) cap e).forced = false := rfl
  rcases hu with hu | ⟨e', hu⟩ <;>
    simp [Builtin.append_, run_underlying ht, run_underlying hu, run_sizeOf hk, hlen, hnf, typeInfo, hi, hbi, hng, hf, hq, hask, hold, hnew, zeroValue, hzv, newRow]
  · rw [if_neg (by omega)]; congr 3; apply Array.ext'; simp
  · rw [if_neg (by omega)]; congr 3; apply Array.ext'; simp

theorem below_drew (w : World) : Below w.heap.size w w.drew := (Below.refl _ _).drew

theorem zeroCells_size (z : Array Value) (n : Nat) : (Builtin.zeroCells z n).size = n * z.size := by simp [Builtin.zeroCells]

/-- A slice of the frame's own that has grown into a new row. -/
theorem grow_row {m : Nat → Option Obj} {w' w2 : World} {l k cap : Nat} {rows0 : List (List S)} (h : MemOK w0 im β m w) (hb : Below w.heap.size w w') (hl : m l = some (.row k rows0))
    {rows : List (List S)} {cells : Array Value} {T : TypeId} (hlt : rows0.length < rows.length)
    (hw2 : w2 = w'.alloc (.cells cells T)) (hk : ∀ r ∈ rows, r.length = k) (hsz : cells.size = cap * k) (hle : rows.length ≤ cap)
    (hv : ∃ vs : List Value, RVals im w rows.flatten vs ∧ ∀ (j : Nat) (u : Value), vs[j]? = some u → cells[j]? = some u) :
    ∃ β', MemOK w0 im β' (upd m l (some (.row k rows))) w2 ∧ Ext im im w w2 β β' m (upd m l (some (.row k rows))) ∧
      RV im w2 β' (upd m l (some (.row k rows))) (.c (.own l rows.length)) (.slice (some ⟨w'.heap.size, 0, none⟩) rows.length cap) := by
  subst hw2
  have hb2 : Below w.heap.size w (w'.alloc (.cells cells T)) := hb.alloc hb.size _
  have hold : ∀ b, b < w.heap.size → (w'.alloc (.cells cells T)).heap[b]? = w.heap[b]? := fun b hlt => hb2.block b hlt
  obtain ⟨vs, hv1, hv2⟩ := hv
  have hext : Ext im im w (w'.alloc (.cells cells T)) β (upd β l ⟨some ⟨w'.heap.size, 0, none⟩, cap, none⟩) m (upd m l (some (.row k rows))) := by
    refine ⟨fun _ h => h, fun b hb' => hold b (h.iml b hb'), fun l' hl' => ?_, fun l' k' rows' hr => ?_⟩
    · have hne : l' ≠ l := by intro e; subst e; rw [hl] at hl'; simp [isBox] at hl'
      simp [upd, hne, hl']
    · by_cases hne : l' = l
      · subst hne
        rw [hl] at hr; simp only [rowOf, Option.some.injEq, Prod.mk.injEq] at hr
        obtain ⟨rfl, rfl⟩ := hr
        exact ⟨rows, by simp [upd, rowOf], by omega, fun he => by omega⟩
      · exact ⟨rows', by simp [upd, hne, hr], Nat.le_refl _, fun _ => by simp [upd, hne]⟩
  have hO : ∀ b, Owns (upd β l ⟨some ⟨w'.heap.size, 0, none⟩, cap, none⟩) (upd m l (some (.row k rows))) l b → b = w'.heap.size := fun b hb' => by
    simp [Owns, upd] at hb'; exact hb'.1.symm
  have hnew : w.heap.size ≤ w'.heap.size := hb.size
  refine ⟨_, h.change hext rfl (fun l' hl' => by simp [upd, hl']) (fun l' b hl' hb' => ?_) (by simp; omega) ⟨by simpa [upd] using hle, .inr ⟨w'.heap.size, cells, T, by simp [upd], heap_alloc_new w' _, by simpa [upd] using hsz, ?_⟩⟩
    (fun b hb' => ?_) (fun b hb' => Nat.lt_of_lt_of_le (h.iml b hb') hb2.size) (fun _ _ _ _ hi => hi) (h.below.trans (hb2.mono h.below.size)) (fun _ h _ => h), hext, k, rows, by simp [upd, rowOf], Nat.le_refl _, ⟨_, _, rfl⟩, fun _ => by simp [upd]⟩
  · cases hm : m l' with
    | none => simp [Owns, hm] at hb'
    | some o'' => exact hold b (h.own l' o'' b hm hb').2.1
  · exact rrows_of_vals (heap_alloc_new w' _) hk (RVals.mono hext.hi hext.hw _ _ hv1) (fun j u hj => by simpa using hv2 j u hj)
  · have := hO b hb'
    subst this
    refine ⟨Nat.le_trans h.below.size hnew, by simp, fun l' hl' hc => ?_, by simp only [loose, true_iff]; intro hi; have := h.iml _ hi; omega⟩
    cases hm : m l' with
    | none => simp [Owns, hm] at hc
    | some o'' => have := (h.own l' o'' _ hm hc).2.1; omega

theorem flatten_append {α : Type} (xs ys : List (List α)) : (xs ++ ys).flatten = xs.flatten ++ ys.flatten := by simp

theorem append_ok (h : Rel N w0 im β st a w) {x y : Operand} {t u e : TypeId} {c : Call} {str : Bool} {k bytes d : Nat} {z : List S} {o : Oper} (ho : o.op = .call c) (hcb : c.callee = .builtin .append) (hca : c.args = #[x, y]) (hct : c.argTypes = #[t, u])
    (ht : P.underlying t = some (.slice e)) (hu : P.underlying u = some .string ∨ ∃ e', P.underlying u = some (.slice e')) (hk : sizeT P e = some k) (hby : bytesT P e = some bytes) (hz : zeroS P e = some z) (hk0 : 0 < k) (hb0 : 0 < bytes) (hzk : z.length = k)
    (hr : runAppend str k bytes d st.mem [ev st.env (cO x), ev st.env (cO y)] = some (v, ups)) : OpOK P w0 im β st.mem a w o v (setAll st.mem ups) := by
  have hexec : ∀ {u' : Value} {w' : World}, (Builtin.append_ #[t, u] o.type #[a.eval x, a.eval y]).run P w = .ok u' w' → (execOp a.eval o).run P w = .ok (.value u') w' := fun {u' w'} hrun => by
    simp [execOp, ho, resolve, hcb, hca, hct, invoke, builtin, hrun]
  obtain ⟨zv, z1, z0, z2, z3⟩ := run_zero (P := P) (w := w) hz
  have hzs : zv.cells.size = k := by rw [← hzk, z3]; simp
  unfold runAppend at hr
  split at hr
  · rename_i k' yv e1
    simp only [List.cons.injEq, and_true] at e1
    obtain ⟨e1, rfl⟩ := e1
    have hx := ev_ok h x; rw [e1] at hx
    simp only [RV, RC, RS] at hx
    obtain ⟨ad, cap, ex, _, c2, _⟩ := hx
    have hcap : cap = 0 := by simpa using c2
    subst hcap
    simp only [List.length_nil] at ex
    split at hr
    · rename_i ys hd hys
      simp only [Option.ite_none_right_eq_some, Option.some.injEq, Prod.mk.injEq] at hr
      obtain ⟨hbd, rfl, rfl⟩ := hr
      obtain ⟨⟨vs, v1, v2, v3, v4, v5⟩, v6⟩ := rows_src h hys
      by_cases hn : ys.length = 0
      · have hys0 : ys = [] := List.eq_nil_of_length_eq_zero hn
        subst hys0
        have hvs : vs = [] := by apply List.eq_nil_of_length_eq_zero; simpa using v3
        subst hvs
        have hrun := run_append_fit (P := P) (w := w) (ty := o.type) (sl := 0) (cap := 0) (n := 0) (base := ad) (new := []) (w' := w) ht hk hu (by simpa using v6 w) (by simpa using v5 w rfl) (by simp) (by cases ad <;> simp [storeCells])
        obtain ⟨m1, e1⟩ := h.mem.add (w' := w) (d := d) (o := .row k []) (bi := ⟨ad, 0, none⟩) hd (Below.refl _ _) (fun b hb' => by simp [Owns, upd] at hb') rfl (fun _ => ⟨by simp, .inl (by simp [upd])⟩)
        exact .of_run (u := .slice ad 0 0) (hexec (by rw [ex]; exact hrun)) m1 e1 ⟨k, [], by simp [setAll, upd, rowOf], by simp, ⟨_, _, rfl⟩, fun _ => by simp [upd]⟩
      · obtain ⟨nc, hnc, hrun⟩ := run_append_grow (P := P) (w := w) (ty := o.type) (sl := 0) (cap := 0) (n := ys.length) (y := a.eval y) (base := ad) (old := []) (new := vs) (zv := zv) ht hk hby hb0 hu z0 (v6 w)
          (firstCells_slice (by simp) (by simp)) (v5 _ rfl) (by omega) (by simpa using hbd)
        obtain ⟨β', m1, e1, r1⟩ := new_row h.mem (below_drew w) hd (k := k) (cap := nc) (rows := ys) (cells := (#[] ++ vs.toArray ++ Builtin.zeroCells zv.cells (nc - (0 + ys.length)))) (T := e) rfl v2
          (by simp [zeroCells_size, v3, hzs]; rw [← Nat.add_mul]; congr 1; omega) (by omega)
          ⟨vs, v1, fun j u hj => by
            have hlt : j < vs.length := (List.getElem?_eq_some_iff.1 hj).1
            simp only [Array.empty_append]
            rw [Array.getElem?_append_left (by simpa using hlt)]
            simpa using hj⟩
        refine .of_run (hexec (by rw [ex, hrun])) m1 e1 ?_
        simpa [setAll] using r1
    · cases hr
  · rename_i l n yv e1
    simp only [List.cons.injEq, and_true] at e1
    obtain ⟨e1, rfl⟩ := e1
    have hx := ev_ok h x; rw [e1] at hx
    split at hr
    · rename_i k' rows ys hl hys
      simp only [Option.ite_none_right_eq_some, Option.some.injEq, Prod.mk.injEq] at hr
      obtain ⟨⟨rfl, hn, hbd⟩, rfl, rfl⟩ := hr
      obtain ⟨⟨vs, v1, v2, v3, v4, v5⟩, v6⟩ := rows_src h hys
      obtain ⟨k2, rows2, f1, f2, f3, f4⟩ := hx
      simp only [rowOf, hl, Option.some.injEq, Prod.mk.injEq] at f1
      obtain ⟨rfl, rfl⟩ := f1
      have ex := f4 hn
      subst hn
      obtain ⟨q0, q1⟩ := h.mem.obj _ _ hl
      by_cases hfit : rows.length + ys.length ≤ (β l).cap
      · by_cases hy0 : ys.length = 0
        · have hys0 : ys = [] := List.eq_nil_of_length_eq_zero hy0
          subst hys0
          have hvs : vs = [] := by apply List.eq_nil_of_length_eq_zero; simpa using v3
          subst hvs
          have hrun := run_append_fit (P := P) (w := w) (ty := o.type) (sl := rows.length) (cap := (β l).cap) (n := 0) (base := (β l).a) (new := []) (w' := w) ht hk hu (by simpa using v6 w) (by simpa using v5 w rfl) (by simpa using q0) (by cases (β l).a <;> simp [storeCells])
          have hm : setAll st.mem [(l, Obj.row k' (rows ++ []))] = st.mem := by
            funext i; simp only [setAll, upd, List.append_nil]; split
            · rename_i e; rw [e, hl]
            · rfl
          rw [hm]
          refine .of_run (u := .slice (β l).a rows.length (β l).cap) (hexec (by rw [ex]; exact hrun)) h.mem (Ext.refl _ _ _ _) ?_
          simp only [List.append_nil]
          exact ⟨k', rows, by simp [rowOf, hl], Nat.le_refl _, ⟨_, _, rfl⟩, fun _ => rfl⟩
        · have hcap : (β l).cap ≠ 0 := by omega
          rcases q1 with q1 | ⟨b, arr, T, q1, q2, q3, q4⟩
          · exact absurd q1 hcap
          obtain ⟨r1, r2, r3, r4⟩ := vals_of_rrows q2 (Nat.zero_le _) q4
          have hin : rows.length * k' + ys.length * k' ≤ arr.size := by rw [q3, ← Nat.add_mul]; exact Nat.mul_le_mul_right k' hfit
          have hst := run_storeCells_at (P := P) b (rows.length * k') T vs 0 arr w q2 (by omega) (fun u hu => oneCell_of_flat (List.all_eq_true.1 v4 u hu))
          simp only [Nat.add_zero] at hst
          have hrun := run_append_fit (P := P) (w := w) (ty := o.type) (sl := rows.length) (cap := (β l).cap) (n := ys.length) (y := a.eval y) (base := (β l).a) (new := vs) (w' := w.setRow b (splice arr.toList (rows.length * k') vs).toArray) ht hk hu (v6 w) (v5 w rfl) hfit (by
            rw [q1]; simp only [addr_add, Nat.zero_add]; rw [hst]; rfl)
          have hown : Owns β st.mem l b := by simp [Owns, hl, q1, hcap]
          have hext := ext_write (o' := .row k' (rows ++ ys)) (new := (splice arr.toList (rows.length * k') vs).toArray) h.mem hl rfl hown (fun hh => by simp [isBox] at hh)
            (fun k'' rows' hr => by simp only [rowOf, Option.some.injEq, Prod.mk.injEq] at hr; obtain ⟨rfl, rfl⟩ := hr; exact ⟨_, rfl, by simp⟩)
          have hlen2 : (rows ++ ys).length = rows.length + ys.length := by simp
          refine .of_run (u := .slice (β l).a (rows.length + ys.length) (β l).cap) (hexec (by rw [ex]; exact hrun)) (h.mem.write hl rfl rfl (fun b' => by simp [Owns, hl, upd]) hown q2 hext ?_) hext
            ⟨k', rows ++ ys, by simp [setAll, upd, rowOf], Nat.le_refl _, ⟨_, _, by rw [hlen2]⟩, fun _ => by rw [hlen2]⟩
          refine ⟨by simpa using hfit, .inr ⟨b, _, T, q1, setRow_heap w b _ _ _ _ q2, ?_, ?_⟩⟩
          · have : (splice arr.toList (rows.length * k') vs).length = arr.toList.length := splice_length (by simp; omega)
            simp [this, q3]
          · refine rrows_of_vals (setRow_heap w b _ _ _ _ q2) (vs := arr.toList.take (rows.length * k') ++ vs) (fun r hr => ?_) ?_ (fun j u hj => ?_)
            · rcases List.mem_append.1 hr with hr | hr
              · exact r2 r hr
              · exact v2 r hr
            · rw [flatten_append]
              have r4' : RVals im w rows.flatten (arr.toList.take (rows.length * k')) := by simpa using r4
              exact RVals.append (RVals.mono hext.hi hext.hw _ _ r4') (RVals.mono hext.hi hext.hw _ _ v1)
            · have hj' : (splice arr.toList (rows.length * k') vs)[j]? = some u := by
                unfold splice
                rw [List.getElem?_append_left (List.getElem?_eq_some_iff.1 hj).1]
                exact hj
              simpa using hj'
      · obtain ⟨old, o1, o2⟩ : ∃ old : List Value, RVals im w rows.flatten old ∧ old.length = rows.length * k' ∧ (∀ r ∈ rows, r.length = k') ∧ (Builtin.firstCells k' rows.length (.slice (β l).a rows.length (β l).cap)).run P w.drew = .ok old.toArray w.drew := by
          rcases q1 with q1 | ⟨b, arr, T, q1, q2, q3, q4⟩
          · have hr0 : rows = [] := by apply List.eq_nil_of_length_eq_zero; omega
            subst hr0
            exact ⟨[], by simp [RVals], by simp, by simp, firstCells_slice (by simp) (by simp)⟩
          · obtain ⟨vs', p1, p2, p3, p4⟩ := RRows.vals q4
            exact ⟨vs', p2, p4, p3, by rw [q1]; exact firstCells_slice p4 (fun _ => ⟨b, 0, rfl, fun j u hj => by exact p1 j u hj⟩)⟩
        obtain ⟨o2, o3, o4⟩ := o2
        obtain ⟨nc, hnc, hrun⟩ := run_append_grow (P := P) (w := w) (ty := o.type) (sl := rows.length) (cap := (β l).cap) (n := ys.length) (y := a.eval y) (base := (β l).a) (old := old) (new := vs) (zv := zv) ht hk hby hb0 hu z0 (v6 w)
          o4 (v5 _ rfl) (by omega) hbd
        obtain ⟨β', m1, e1, r1⟩ := grow_row h.mem (below_drew w) hl (cap := nc) (rows := rows ++ ys) (cells := (old.toArray ++ vs.toArray ++ Builtin.zeroCells zv.cells (nc - (rows.length + ys.length)))) (T := e) (by simp; omega) rfl
          (fun r hr => by
            rcases List.mem_append.1 hr with hr | hr
            · exact o3 r hr
            · exact v2 r hr)
          (by simp [zeroCells_size, v3, o2, hzs]; rw [← Nat.add_mul, ← Nat.add_mul]; congr 1; omega) (by simp; omega)
          ⟨old ++ vs, by rw [flatten_append]; exact RVals.append o1 v1, fun j u hj => by
            have hlt : j < (old ++ vs).length := (List.getElem?_eq_some_iff.1 hj).1
            rw [Array.getElem?_append_left (by simpa using hlt)]
            simpa using hj⟩
        refine .of_run (hexec (by rw [ex, hrun])) m1 e1 ?_
        simpa [setAll] using r1
    · cases hr
  · cases hr
end
end Go.Ab
