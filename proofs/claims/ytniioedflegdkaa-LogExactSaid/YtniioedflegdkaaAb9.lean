/- Literals; new memory. -/
import Derived.Test.YtniioedflegdkaaAb8
set_option linter.all false
namespace Go.Ab
open Go Go.RowKit

section
variable {im : Nat → Prop} {w : World} {β : Nat → BI} {P : Program} {N : Nat} {w0 : W0} {st : AS} {a : Act} {v : V} {ups : List (Nat × Obj)}

theorem foldl_lay (off : Nat) : ∀ (l : List Value) (k : Nat) (cells : Array Value), off + k + l.length ≤ cells.size →
    ((l.zipIdx k).foldl (fun cs (p : Value × Nat) => cs.setIfInBounds (off + p.2) p.1) cells).toList = cells.toList.take (off + k) ++ l ++ cells.toList.drop (off + k + l.length)
  | [], k, cells, _ => by simp
  | v :: l, k, cells, h => by
    simp only [List.length_cons] at h
    simp only [List.zipIdx_cons, List.foldl_cons]
    rw [foldl_lay off l (k + 1) _ (by simp; omega)]
    have hk : off + k < cells.toList.length := by simp; omega
    simp only [Array.toList_setIfInBounds]
    have e1 : (cells.toList.set (off + k) v).take (off + (k + 1)) = cells.toList.take (off + k) ++ [v] := by
      rw [show off + (k + 1) = off + k + 1 by omega, List.take_succ_eq_append_getElem (by simpa using hk), List.take_set_of_le (by omega)]
      simp
    have e2 : (cells.toList.set (off + k) v).drop (off + (k + 1) + l.length) = cells.toList.drop (off + k + (v :: l).length) := by
      rw [List.drop_set_of_lt (by omega)]
      congr 1; simp; omega
    rw [e1, e2]
    simp

theorem zipIdx_foldl (off : Nat) (vs cells : Array Value) (h : off + vs.size ≤ cells.size) :
    (vs.zipIdx.foldl (fun cs (p : Value × Nat) => cs.setIfInBounds (off + p.2) p.1) cells).toList = splice cells.toList off vs.toList := by
  rw [← Array.foldl_toList, Array.toList_zipIdx, foldl_lay off vs.toList 0 cells (by simpa using h)]
  simp [splice]

theorem fill_ok {m : Nat → Option Obj} (h : ∀ x, RV im w β m (ev st.env (cO x)) (a.eval x)) (place : Nat → Option (Nat × Nat)) : ∀ (parts : List (Nat × Operand)) (pl : List (Nat × Nat)) (xs ys : List C) (cells : Array Value),
    parts.map (fun p => place p.1) = pl.map some → layParts xs pl (parts.map fun p => ev st.env (cO p.2)) = some ys → RCs im w β m xs cells.toList →
    ∃ cells', Instr.fill place cells (parts.map fun p => (p.1, a.eval p.2)) = some cells' ∧ RCs im w β m ys cells'.toList
  | [], pl, xs, ys, cells, hp, hl, hx => by
    have hpl : pl = [] := by simpa using hp.symm
    subst hpl
    simp only [List.map_nil, layParts, Option.some.injEq] at hl
    subst hl
    exact ⟨cells, rfl, hx⟩
  | p :: parts, [], xs, ys, cells, hp, hl, hx => by simp at hp
  | p :: parts, (off, n) :: pl, xs, ys, cells, hp, hl, hx => by
    simp only [List.map_cons, List.cons.injEq] at hp
    simp only [List.map_cons, layParts] at hl
    split at hl
    · rename_i zs hz
      simp only [Option.ite_none_right_eq_some] at hl
      obtain ⟨⟨h1, h2⟩, hl⟩ := hl
      have hc := cellsV_ok (h p.2) hz
      have hlen := RCs.length hc
      have hlenx := RCs.length hx
      simp only [Array.length_toList] at hlen hlenx
      have hsp := zipIdx_foldl off (a.eval p.2).cells cells (by omega)
      have hx' : RCs im w β m (splice xs off zs) (((a.eval p.2).cells.zipIdx.foldl (fun cs (p : Value × Nat) => cs.setIfInBounds (off + p.2) p.1) cells)).toList := by
        rw [hsp]
        unfold splice
        rw [hlen]
        exact RCs.append (RCs.append (RCs.take off hx) hc) (RCs.drop _ hx)
      obtain ⟨cells', g1, g2⟩ := fill_ok h place parts pl _ ys _ hp.2 hl hx'
      refine ⟨cells', ?_, g2⟩
      simp only [List.map_cons, Instr.fill, hp.1]
      rw [if_neg (by simp; omega)]
      exact g1
    · cases hl

theorem mapM_some {α β : Type} {f : α → Option β} : ∀ {l : List α} {r : List β}, l.mapM f = some r → l.map f = r.map some
  | [], r, h => by simp at h; subst h; rfl
  | x :: l, r, h => by
    simp only [List.mapM_cons, Option.bind_eq_bind, Option.bind_eq_some_iff, Option.pure_def, Option.some.injEq] at h
    obtain ⟨y, h1, r', h2, rfl⟩ := h
    simp [h1, mapM_some h2]

theorem run_zero {t : TypeId} {z : List S} (h : zeroS P t = some z) : ∃ zv : Value, (zeroValue t).run P w = .ok zv w ∧ (∃ i, P.info? t = some i ∧ i.zero = some zv) ∧ zv.cells.toList.all flat = true ∧ z = zv.cells.toList.map ofCell := by
  unfold zeroS at h
  split at h
  · rename_i i hi
    split at h
    · rename_i zv hz
      simp only [Option.ite_none_right_eq_some, Option.some.injEq] at h
      exact ⟨zv, by simp [zeroValue, typeInfo, hi, hz], ⟨i, hi, hz⟩, h.1, h.2.symm⟩
    · cases h
  · cases h

theorem zero_cells {m : Nat → Option Obj} {zv : Value} {z : List S} (h1 : zv.cells.toList.all flat = true) (h2 : z = zv.cells.toList.map ofCell) : RCs im w β m (z.map C.s) zv.cells.toList := by
  subst h2
  have := ofCells_ok (im := im) (w := w) (β := β) (m := m) _ h1
  simpa [List.map_map, Function.comp_def] using this

theorem mapM_sizes (fs : Array Field) (h : fs.toList.all (fun f => (sizeT P f.type).isSome) = true) :
    (fs.mapM (m := Sem) fun f => do pure (f.offset, ← sizeOf f.type)).run P w = .ok (fs.map fun f => (f.offset, (sizeT P f.type).getD 0)) w := by
  rw [Array.mapM_eq_mapM_toList]
  have key : ∀ l : List Field, l.all (fun f => (sizeT P f.type).isSome) = true → (l.mapM (m := Sem) fun f => do pure (f.offset, ← sizeOf f.type)).run P w = .ok (l.map fun f => (f.offset, (sizeT P f.type).getD 0)) w := by
    intro l
    induction l with
    | nil => intro _; simp
    | cons f l ih =>
      intro hl
      simp only [List.all_cons, Bool.and_eq_true] at hl
      obtain ⟨n, hn⟩ := Option.isSome_iff_exists.1 hl.1
      simp only [List.mapM_cons, Sem.run_bind, run_sizeOf hn, Result.andThen_ok, Sem.run_pure, ih hl.2, List.map_cons, hn, Option.getD_some]
  simp only [Sem.run_map, key _ h, Result.andThen_ok]
  congr 1
  apply Array.ext'
  simp

theorem build_ok (h : Rel N w0 im β st a w) {t : TypeId} {parts : Array (Nat × Operand)} {z : List S} {pl : List (Nat × Nat)} (hz : zeroS P t = some z) (hp : placesB P t (parts.toList.map (·.1)) = some pl)
    (hr : runBuild z pl (parts.toList.map fun p => ev st.env (cO p.2)) = some (v, ups)) : Shown P im w β st a (.build t parts) v ups := by
  unfold runBuild at hr
  simp only [Option.map_eq_some_iff, Prod.mk.injEq] at hr
  obtain ⟨ys, hl, rfl, rfl⟩ := hr
  obtain ⟨zv, z1, _, z2, z3⟩ := run_zero (P := P) (w := w) hz
  have hx := zero_cells (im := im) (w := w) (β := β) (m := st.mem) z2 z3
  unfold placesB at hp
  split at hp
  · rename_i fs hfs
    simp only [Option.ite_none_right_eq_some] at hp
    obtain ⟨hall, hp⟩ := hp
    have hm := mapM_some hp
    obtain ⟨cells', g1, g2⟩ := fill_ok (ev_ok h) ((fs.map fun f => (f.offset, (sizeT P f.type).getD 0))[·]?) parts.toList pl _ ys zv.cells (by
      rw [← hm, List.map_map]
      apply List.map_congr_left
      intro p _
      simp only [Function.comp_def, Array.getElem?_map]
      cases hf : fs[p.1]? with
      | none => rfl
      | some f =>
        have : (sizeT P f.type).isSome = true := by
          have hmem : f ∈ fs.toList := by
            rw [Array.getElem?_eq_some_iff] at hf
            obtain ⟨hlt, rfl⟩ := hf
            simp
          exact (List.all_eq_true.1 hall) f hmem
        obtain ⟨n, hn⟩ := Option.isSome_iff_exists.1 this
        simp [hn]) hl hx
    refine ⟨rfl, .agg cells', fun o ho => ?_, cells', rfl, g2⟩
    have g1' : Instr.fill ((fs.map fun f => (f.offset, (sizeT P f.type).getD 0))[·]?) zv.cells (parts.map fun (i, x) => (i, a.eval x)).toList = some cells' := by
      rw [Array.toList_map]; exact g1
    simp only [Yld, execOp, ho, Instr.build, Sem.run_bind, z1, Result.andThen_ok, run_underlying hfs, mapM_sizes fs hall, g1', Sem.run_pure]
  · rename_i n e he
    simp only [Option.bind_eq_some_iff, Option.some.injEq] at hp
    obtain ⟨k, hk, rfl⟩ := hp
    obtain ⟨cells', g1, g2⟩ := fill_ok (ev_ok h) (fun i => some (i * k, k)) parts.toList _ _ ys zv.cells (by simp) hl hx
    refine ⟨rfl, .agg cells', fun o ho => ?_, cells', rfl, g2⟩
    have g1' : Instr.fill (fun i => some (i * k, k)) zv.cells (parts.map fun (i, x) => (i, a.eval x)).toList = some cells' := by
      rw [Array.toList_map]; exact g1
    simp only [Yld, execOp, ho, Instr.build, Sem.run_bind, z1, Result.andThen_ok, run_underlying he, run_sizeOf hk, g1', Sem.run_pure]
  · cases hp

/-! ### New memory -/
theorem below_alloc (w : World) (o : Go.Obj) : Below w.heap.size w (w.alloc o) := (Below.refl _ _).alloc (Nat.le_refl _) o

/-- A new thing of the frame's own. -/
theorem MemOK.add {m : Nat → Option Obj} {w' : World} (h : MemOK w0 im β m w) {d : Nat} {o : Obj} {bi : BI} (hd : m d = none) (hb : Below w.heap.size w w')
    (ha : ∀ b, Owns (upd β d bi) (upd m d (some o)) d b → w.heap.size ≤ b ∧ b < w'.heap.size) (hlo : loose o = true)
    (ho : Ext im im w' w' β (upd β d bi) m (upd m d (some o)) → RObj im w' (upd β d bi) (upd m d (some o)) d o) :
    MemOK w0 im (upd β d bi) (upd m d (some o)) w' ∧ Ext im im w w' β (upd β d bi) m (upd m d (some o)) := by
  obtain ⟨h1, e1⟩ := h.grow hb (fun _ h => h) (fun b h => .inl h) (fun b hb' => Nat.lt_of_lt_of_le (h.iml b hb') hb.size)
  have hext : Ext im im w' w' β (upd β d bi) m (upd m d (some o)) := by
    refine ⟨fun _ h => h, fun _ _ => rfl, fun l hl => ?_, fun l k rows hl => ?_⟩
    · have hne : l ≠ d := by intro e; subst e; rw [hd] at hl; simp [isBox] at hl
      simp [upd, hne, hl]
    · have hne : l ≠ d := by intro e; subst e; rw [hd] at hl; simp [rowOf] at hl
      exact ⟨rows, by simp [upd, hne, hl], Nat.le_refl _, fun _ => by simp [upd, hne]⟩
  refine ⟨h1.change hext rfl (fun l' hl' => by simp [upd, hl']) (fun _ _ _ _ => rfl) (Nat.le_refl _) (ho hext) (fun b hb' => ?_) h1.iml (fun _ _ _ _ hi => hi) h1.below (fun _ h _ => h), ?_⟩
  · obtain ⟨g1, g2⟩ := ha b hb'
    refine ⟨Nat.le_trans h.below.size g1, g2, fun l' hl' hc => ?_, by simp only [hlo, true_iff]; intro hi; have := h.iml b hi; omega⟩
    cases hm : m l' with
    | none => simp [Owns, hm] at hc
    | some o'' => have := (h.own l' o'' b hm hc).2.1; omega
  · exact ⟨e1.hi, e1.hw, fun l hl => hext.box l hl, fun l k rows hl => hext.row l k rows hl⟩
end
end Go.Ab
