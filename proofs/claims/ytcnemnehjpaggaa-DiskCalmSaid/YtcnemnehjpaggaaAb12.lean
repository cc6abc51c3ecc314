/- Contracts; calls. -/
import Derived.Test.YtcnemnehjpaggaaAb11
set_option linter.all false
namespace Go.Ab
open Go Go.RowKit

def β0 : Nat → BI := fun _ => ⟨none, 0, none⟩
def m0 : Nat → Option Obj := fun _ => none

def RVl (im : Nat → Prop) (w : World) (β : Nat → BI) (m : Nat → Option Obj) : List V → List Value → Prop
  | [], [] => True
  | x :: xs, v :: vs => RV im w β m x v ∧ RVl im w β m xs vs
  | _, _ => False

/-- What may be read behind a call: what was sealed, and what is new. -/
def grown (im : Nat → Prop) (w w' : World) : Nat → Prop := fun b => im b ∨ (w.heap.size ≤ b ∧ b < w'.heap.size)

def RRes (im : Nat → Prop) (w w' : World) : Res → Value → Prop
  | .v x, u => RV (grown im w w') w' β0 m0 x u
  | .fresh k rows, u => ∃ a cap, u = .slice a rows.length cap ∧ rows.length ≤ cap ∧ (cap = 0 ∨ ∃ b arr T, a = some ⟨b, 0, none⟩ ∧ w.heap.size ≤ b ∧ b < w'.heap.size ∧
      w'.heap[b]? = some (.cells arr T (0, 0)) ∧ arr.size = cap * k ∧ RRows (fun b' => grown im w w' b' ∧ b' ≠ b) w' k b 0 rows)

def Callable (P : Program) (f : FuncId) : Prop := ∃ fn, P.funcs[f]? = some fn ∧ fn.body.isSome = true ∧ (fn.name == "runtime.NumGoroutine") = false

/-- The function hands back what the specification says, in memory of its own; nothing that was there turns. -/
def Contract (P : Program) (f : FuncId) (F : Spec) : Prop :=
  ∀ (im : Nat → Prop) (w : World) (args : List V) (vs : Array Value) (r : Res), (∀ b, im b → b < w.heap.size) → RVl im w β0 m0 args vs.toList → F args = some r →
    Callable P f ∧ Calls P f vs w fun e w' => ∃ u, e = .returned u ∧ Below w.heap.size w w' ∧ RRes im w w' r u

section
variable {im : Nat → Prop} {w : World} {β : Nat → BI} {P : Program} {N : Nat} {w0 : W0} {st : AS} {a : Act} {v : V} {ups : List (Nat × Obj)}

/-! ### Sealed data bear no reference -/
theorem RC.base {x : C} {u : Value} (h : RC im w β0 m0 x u) (β : Nat → BI) (m : Nat → Option Obj) : RC im w β m x u := by
  cases x with
  | s x => exact h
  | ptr l o => simp [RC, m0, isBox] at h
  | own l n => simp [RC, m0, rowOf] at h
  | optr l n i o => simp [RC, m0, rowOf] at h

theorem RCs.base : ∀ {xs : List C} {vs : List Value}, RCs im w β0 m0 xs vs → ∀ (β : Nat → BI) (m : Nat → Option Obj), RCs im w β m xs vs
  | [], [], _, _, _ => trivial
  | _ :: _, _ :: _, h, β, m => ⟨RC.base h.1 β m, RCs.base h.2 β m⟩
  | [], _ :: _, h, _, _ => h.elim
  | _ :: _, [], h, _, _ => h.elim

theorem RTs.base : ∀ {xs : List (C ⊕ List C)} {vs : List Value}, RTs im w β0 m0 xs vs → ∀ (β : Nat → BI) (m : Nat → Option Obj), RTs im w β m xs vs
  | [], [], _, _, _ => trivial
  | .inl _ :: _, _ :: _, h, β, m => ⟨RC.base h.1 β m, RTs.base h.2 β m⟩
  | .inr _ :: _, _ :: _, h, β, m => by obtain ⟨⟨cs, e, hc⟩, h2⟩ := h; exact ⟨⟨cs, e, RCs.base hc β m⟩, RTs.base h2 β m⟩
  | [], _ :: _, h, _, _ => h.elim
  | .inl _ :: _, [], h, _, _ => h.elim
  | .inr _ :: _, [], h, _, _ => h.elim

theorem RV.base {x : V} {u : Value} (h : RV im w β0 m0 x u) (β : Nat → BI) (m : Nat → Option Obj) : RV im w β m x u := by
  cases x with
  | junk => trivial
  | undef => exact h
  | tf => exact h
  | c x => exact RC.base h β m
  | agg xs => obtain ⟨cs, e, hc⟩ := h; exact ⟨cs, e, RCs.base hc β m⟩
  | tup xs => obtain ⟨cs, e, hc⟩ := h; exact ⟨cs, e, RTs.base hc β m⟩

/-! ### Values without references -/
theorem RS.refless {x : S} {u : Value} (hr : x.refless = true) (h : RS im w x u) (im' : Nat → Prop) (w' : World) : RS im' w' x u := by
  cases x <;> first | (simp only [RS] at *; exact h) | simp [S.refless] at hr

theorem RC.refless {m : Nat → Option Obj} {x : C} {u : Value} (hr : x.refless = true) (h : RC im w β m x u) (im' : Nat → Prop) (w' : World) : RC im' w' β m x u := by
  cases x <;> first | exact RS.refless hr h im' w' | simp [C.refless] at hr

theorem RCs.refless {m : Nat → Option Obj} : ∀ {xs : List C} {vs : List Value}, xs.all (·.refless) = true → RCs im w β m xs vs → ∀ (im' : Nat → Prop) (w' : World), RCs im' w' β m xs vs
  | [], [], _, _, _, _ => trivial
  | _ :: _, _ :: _, hr, h, im', w' => by
    simp only [List.all_cons, Bool.and_eq_true] at hr
    exact ⟨RC.refless hr.1 h.1 im' w', RCs.refless hr.2 h.2 im' w'⟩
  | [], _ :: _, _, h, _, _ => h.elim
  | _ :: _, [], _, h, _, _ => h.elim

theorem RTs.refless {m : Nat → Option Obj} : ∀ {xs : List (C ⊕ List C)} {vs : List Value}, (V.tup xs).refless = true → RTs im w β m xs vs → ∀ (im' : Nat → Prop) (w' : World), RTs im' w' β m xs vs
  | [], [], _, _, _, _ => trivial
  | .inl _ :: _, _ :: _, hr, h, im', w' => by
    simp only [V.refless, List.all_cons, Bool.and_eq_true] at hr
    exact ⟨RC.refless hr.1 h.1 im' w', RTs.refless hr.2 h.2 im' w'⟩
  | .inr _ :: _, _ :: _, hr, h, im', w' => by
    simp only [V.refless, List.all_cons, Bool.and_eq_true] at hr
    obtain ⟨⟨cs, e, hc⟩, h2⟩ := h
    exact ⟨⟨cs, e, RCs.refless hr.1 hc im' w'⟩, RTs.refless hr.2 h2 im' w'⟩
  | [], _ :: _, _, h, _, _ => h.elim
  | .inl _ :: _, [], _, h, _, _ => h.elim
  | .inr _ :: _, [], _, h, _, _ => h.elim

theorem RV.refless {m : Nat → Option Obj} {x : V} {u : Value} (hr : x.refless = true) (h : RV im w β m x u) (im' : Nat → Prop) (w' : World) : RV im' w' β m x u := by
  cases x with
  | junk => trivial
  | undef => exact h
  | tf => exact h
  | c x => exact RC.refless hr h im' w'
  | agg xs => obtain ⟨cs, e, hc⟩ := h; exact ⟨cs, e, RCs.refless hr hc im' w'⟩
  | tup xs => obtain ⟨cs, e, hc⟩ := h; exact ⟨cs, e, RTs.refless hr hc im' w'⟩

/-! ### Sealing -/
def sealI (im : Nat → Prop) (β : Nat → BI) (m : Nat → Option Obj) (ls : List Nat) : Nat → Prop := fun b => im b ∨ ∃ l, l ∈ ls ∧ (∃ k rows, m l = some (.row k rows)) ∧ Owns β m l b

def sealM (m : Nat → Option Obj) (ls : List Nat) : Nat → Option Obj := fun l => if l ∈ ls then (match m l with | some (.row k rows) => some (.srow k rows) | o => o) else m l

theorem setAll_not {m : Nat → Option Obj} : ∀ {us : List (Nat × Obj)} {l : Nat}, (∀ p ∈ us, p.1 ≠ l) → setAll m us l = m l
  | [], _, _ => rfl
  | (l', o) :: us, l, h => by
    simp only [setAll]
    rw [setAll_not (fun p hp => h p (by simp [hp]))]
    have := h (l', o) (by simp)
    simp only at this
    simp [upd, Ne.symm this]

theorem sealL_mem {m : Nat → Option Obj} : ∀ {ls : List Nat} {p : Nat × Obj}, p ∈ sealL m ls ↔ p.1 ∈ ls ∧ ∃ k rows, m p.1 = some (.row k rows) ∧ p.2 = .srow k rows
  | [], p => by simp [sealL]
  | l :: ls, p => by
    unfold sealL
    split
    · rename_i k rows e
      simp only [List.mem_cons, sealL_mem]
      constructor
      · rintro (rfl | ⟨h1, h2⟩)
        · exact ⟨.inl rfl, k, rows, e, rfl⟩
        · exact ⟨.inr h1, h2⟩
      · rintro ⟨rfl | h1, h2⟩
        · obtain ⟨k', rows', e1, e2⟩ := h2
          rw [e] at e1; simp only [Option.some.injEq, Obj.row.injEq] at e1
          obtain ⟨rfl, rfl⟩ := e1
          exact .inl (by ext <;> simp [e2])
        · exact .inr ⟨h1, h2⟩
    · rename_i hne
      simp only [sealL_mem, List.mem_cons]
      constructor
      · rintro ⟨h1, h2⟩; exact ⟨.inr h1, h2⟩
      · rintro ⟨rfl | h1, h2⟩
        · obtain ⟨k', rows', e1, _⟩ := h2; exact absurd e1 (hne k' rows')
        · exact ⟨h1, h2⟩

theorem setAll_val {m : Nat → Option Obj} : ∀ {us : List (Nat × Obj)} {l : Nat} {o : Obj}, (∃ p ∈ us, p.1 = l) → (∀ p ∈ us, p.1 = l → p.2 = o) → setAll m us l = some o
  | [], _, _, h, _ => by obtain ⟨p, hp, _⟩ := h; cases hp
  | (l', o') :: us, l, o, h, h2 => by
    simp only [setAll]
    by_cases hu : ∃ p ∈ us, p.1 = l
    · exact setAll_val hu (fun p hp => h2 p (by simp [hp]))
    · rw [setAll_not (fun p hp e => hu ⟨p, hp, e⟩)]
      obtain ⟨p, hp, e⟩ := h
      rcases List.mem_cons.1 hp with rfl | hp
      · simp only at e; subst e
        have := h2 (l', o') (by simp) rfl
        simp only at this; subst this
        simp [upd]
      · exact absurd ⟨p, hp, e⟩ hu

theorem setAll_sealL (m : Nat → Option Obj) (ls : List Nat) : setAll m (sealL m ls) = sealM m ls := by
  funext l
  unfold sealM
  by_cases hl : l ∈ ls
  · rw [if_pos hl]
    split
    · rename_i k rows e
      exact setAll_val ⟨(l, .srow k rows), sealL_mem.2 ⟨hl, k, rows, e, rfl⟩, rfl⟩ (fun p hp e1 => by
        obtain ⟨_, k', rows', e2, e3⟩ := sealL_mem.1 hp
        rw [e1, e] at e2; simp only [Option.some.injEq, Obj.row.injEq] at e2
        obtain ⟨rfl, rfl⟩ := e2
        exact e3)
    · rename_i hne
      exact setAll_not (fun p hp e1 => by
        obtain ⟨_, k', rows', e2, _⟩ := sealL_mem.1 hp
        rw [e1] at e2; exact hne k' rows' e2)
  · rw [if_neg hl]
    exact setAll_not (fun p hp e1 => hl (e1 ▸ (sealL_mem.1 hp).1))

theorem setAll_append (m : Nat → Option Obj) : ∀ (us vs : List (Nat × Obj)), setAll m (us ++ vs) = setAll (setAll m us) vs
  | [], _ => rfl
  | (l, o) :: us, vs => by simp only [List.cons_append, setAll, setAll_append]

theorem sealM_owns {m : Nat → Option Obj} {ls : List Nat} {l b : Nat} : Owns β (sealM m ls) l b ↔ Owns β m l b := by
  unfold Owns sealM
  by_cases hl : l ∈ ls
  · rw [if_pos hl]
    cases m l with
    | none => rfl
    | some o => cases o <;> rfl
  · rw [if_neg hl]

theorem MemOK.sealOK {m : Nat → Option Obj} (h : MemOK w0 im β m w) (ls : List Nat) :
    MemOK w0 (sealI im β m ls) β (sealM m ls) w ∧ Ext im (sealI im β m ls) w w β β m (sealM m ls) := by
  have hext : Ext im (sealI im β m ls) w w β β m (sealM m ls) := by
    refine ⟨fun _ h => .inl h, fun _ _ => rfl, fun l hl => ⟨?_, rfl⟩, fun l k rows hr => ⟨rows, ?_, Nat.le_refl _, fun _ => ⟨rfl, rfl⟩⟩⟩
    · unfold sealM; split
      · split
        · rename_i e; rw [e] at hl; simp [isBox] at hl
        · exact hl
      · exact hl
    · unfold sealM; split
      · split
        · rename_i e; rw [e] at hr; simpa [rowOf] using hr
        · exact hr
      · exact hr
  refine ⟨⟨fun l o hl => ?_, fun l l' b h1 h2 => h.dis l l' b (sealM_owns.1 h1) (sealM_owns.1 h2), fun l o b hl ho => ?_, fun b hb => ?_, h.below, fun b hb hlt => h.old b (hb.elim id (fun ⟨l, _, ⟨k, rows, e⟩, ho⟩ => absurd (h.own l _ b e ho).1 (by omega))) hlt⟩, hext⟩
  · by_cases hs : l ∈ ls ∧ ∃ k rows, m l = some (.row k rows)
    · obtain ⟨hl1, k, rows, e⟩ := hs
      simp only [sealM, if_pos hl1, e, Option.some.injEq] at hl
      subst hl
      obtain ⟨g1, g2⟩ := h.obj l _ e
      refine ⟨g1, g2.imp id ?_⟩
      rintro ⟨b, arr, T, i1, i2, i3, i4⟩
      exact ⟨b, i1, RRows.mono hext.hi hext.hw k b 0 rows rfl i4⟩
    · have e : m l = some o := by
        unfold sealM at hl
        split at hl
        · rename_i hl1
          split at hl
          · rename_i k rows e; exact absurd ⟨hl1, k, rows, e⟩ hs
          · exact hl
        · exact hl
      exact RObj.ext hext e rfl (fun _ _ => rfl) (h.obj l o e)
  · have ho' := sealM_owns.1 ho
    by_cases hs : l ∈ ls ∧ ∃ k rows, m l = some (.row k rows)
    · obtain ⟨hl1, k, rows, e⟩ := hs
      simp only [sealM, if_pos hl1, e, Option.some.injEq] at hl
      subst hl
      obtain ⟨g1, g2, _⟩ := h.own l _ b e ho'
      exact ⟨g1, g2, by simp only [loose, Bool.false_eq_true, false_iff, Classical.not_not]; exact .inr ⟨l, hl1, ⟨k, rows, e⟩, ho'⟩⟩
    · have e : m l = some o := by
        unfold sealM at hl
        split at hl
        · rename_i hl1
          split at hl
          · rename_i k rows e; exact absurd ⟨hl1, k, rows, e⟩ hs
          · exact hl
        · exact hl
      obtain ⟨g1, g2, g3⟩ := h.own l o b e ho'
      refine ⟨g1, g2, g3.trans ⟨fun hn hi => ?_, fun hn hi => hn (.inl hi)⟩⟩
      rcases hi with hi | ⟨l', hl', hr, hb'⟩
      · exact hn hi
      · have := h.dis l l' b ho' hb'
        subst this
        exact hs ⟨hl', hr⟩
  · rcases hb with hb | ⟨l, _, ⟨k, rows, e⟩, ho⟩
    · exact h.iml b hb
    · exact (h.own l _ b e ho).2.1

/-! ### Arguments -/
theorem im_of_sealed {m : Nat → Option Obj} (h : MemOK w0 im β m w) {l b : Nat} {o : Obj} (hl : m l = some o) (hlo : loose o = false) (hb : Owns β m l b) : im b := by
  have := (h.own l o b hl hb).2.2
  rw [hlo] at this
  exact Classical.not_not.1 (fun hn => by have := this.2 hn; cases this)

theorem argC_ok {m : Nat → Option Obj} (h : MemOK w0 im β m w) {ls : List Nat} {x y : C} {u : Value} (hx : RC im w β m x u) (ha : argC m x = some y) (hls : ∀ l ∈ locC x, l ∈ ls) : RC (sealI im β m ls) w β0 m0 y u := by
  cases x with
  | s x => simp only [argC, Option.some.injEq] at ha; subst ha; exact RS.mono (fun _ h => .inl h) (fun _ _ => rfl) x u hx
  | own l n =>
    simp only [argC, Option.map_eq_some_iff] at ha
    obtain ⟨⟨k, rows⟩, ho, rfl⟩ := ha
    obtain ⟨g1, g2, g3⟩ := ownRows_some ho
    obtain ⟨k2, rows2, f1, f2, f3, f4⟩ := hx
    rw [g2] at f1
    simp only [Option.some.injEq, Prod.mk.injEq] at f1
    obtain ⟨rfl, rfl⟩ := f1
    have ex := f4 g1
    have hll : l ∈ ls := hls l (by simp [locC])
    simp only [RC, RS]
    refine ⟨_, _, by rw [ex, g1], ?_⟩
    rcases g3 with e | e
    · obtain ⟨q0, q1⟩ := h.obj _ _ e
      refine ⟨q0, by simp, fun hne => ?_⟩
      have hcap : (β l).cap ≠ 0 := by
        intro h0; apply hne; apply List.eq_nil_of_length_eq_zero; omega
      rcases q1 with q1 | ⟨b, arr, T, i1, i2, i3, i4⟩
      · exact absurd q1 hcap
      · exact ⟨b, 0, i1, .inr ⟨l, hll, ⟨k, rows, e⟩, by simp [Owns, e, i1, hcap]⟩, RRows.mono (fun _ h => .inl h) (fun _ _ => rfl) k b 0 rows rfl i4⟩
    · obtain ⟨q0, q1⟩ := h.obj _ _ e
      refine ⟨q0, by simp, fun hne => ?_⟩
      have hcap : (β l).cap ≠ 0 := by
        intro h0; apply hne; apply List.eq_nil_of_length_eq_zero; omega
      rcases q1 with q1 | ⟨b, i1, i4⟩
      · exact absurd q1 hcap
      · exact ⟨b, 0, i1, .inl (im_of_sealed h e rfl (by simp [Owns, e, i1, hcap])), RRows.mono (fun _ h => .inl h) (fun _ _ => rfl) k b 0 rows rfl i4⟩
  | ptr l o =>
    simp only [argC] at ha
    split at ha
    · rename_i cells e
      simp only [Option.some.injEq] at ha; subst ha
      obtain ⟨_, b, hb, ex⟩ := hx
      obtain ⟨b', arr, T, fr, g1, g2, g3⟩ := h.obj _ _ e
      rw [hb] at g1; simp only [Option.some.injEq, Addr.mk.injEq, and_true] at g1; subst g1
      simp only [RC, RS]
      refine ⟨b, o, ex, .inl (im_of_sealed h e rfl (by simp [Owns, e, hb])), ?_⟩
      exact rrow_of_vals g2 (RVals.drop o (RVals.mono (fun _ h => .inl h) (fun _ _ => rfl) _ _ g3)) (fun j u hj => by simpa [List.getElem?_drop] using hj)
    · cases ha
  | optr l n i o => simp [argC] at ha

theorem argCs_ok {m : Nat → Option Obj} (h : MemOK w0 im β m w) {ls : List Nat} : ∀ {xs ys : List C} {vs : List Value}, RCs im w β m xs vs → argCs m xs = some ys → (∀ l ∈ xs.flatMap locC, l ∈ ls) → RCs (sealI im β m ls) w β0 m0 ys vs
  | [], ys, [], _, ha, _ => by simp only [argCs, Option.some.injEq] at ha; subst ha; trivial
  | x :: xs, ys, v :: vs, hx, ha, hls => by
    simp only [argCs] at ha
    split at ha
    · rename_i y ys' e1 e2
      simp only [Option.some.injEq] at ha; subst ha
      exact ⟨argC_ok h hx.1 e1 (fun l hl => hls l (by simp [hl])), argCs_ok h hx.2 e2 (fun l hl => hls l (by
        simp only [List.flatMap_cons, List.mem_append]; exact .inr hl))⟩
    · cases ha
  | [], _, _ :: _, hx, _, _ => hx.elim
  | _ :: _, _, [], hx, _, _ => hx.elim

theorem argV_ok {m : Nat → Option Obj} (h : MemOK w0 im β m w) {ls : List Nat} {x y : V} {u : Value} (hx : RV im w β m x u) (ha : argV m x = some y) (hls : ∀ l ∈ locV x, l ∈ ls) : RV (sealI im β m ls) w β0 m0 y u := by
  cases x with
  | c x => simp only [argV, Option.map_eq_some_iff] at ha; obtain ⟨y', e, rfl⟩ := ha; exact argC_ok h hx e hls
  | agg xs => simp only [argV, Option.map_eq_some_iff] at ha; obtain ⟨ys, e, rfl⟩ := ha; obtain ⟨cs, e2, hc⟩ := hx; exact ⟨cs, e2, argCs_ok h hc e hls⟩
  | junk => simp [argV] at ha
  | undef => simp [argV] at ha
  | tf => simp [argV] at ha
  | tup xs => simp [argV] at ha

theorem argVs_ok {m : Nat → Option Obj} (h : MemOK w0 im β m w) {ls : List Nat} : ∀ {xs ys : List V} {vs : List Value}, RVl im w β m xs vs → argVs m xs = some ys → (∀ l ∈ xs.flatMap locV, l ∈ ls) → RVl (sealI im β m ls) w β0 m0 ys vs
  | [], ys, [], _, ha, _ => by simp only [argVs, Option.some.injEq] at ha; subst ha; trivial
  | x :: xs, ys, v :: vs, hx, ha, hls => by
    simp only [argVs] at ha
    split at ha
    · rename_i y ys' e1 e2
      simp only [Option.some.injEq] at ha; subst ha
      exact ⟨argV_ok h hx.1 e1 (fun l hl => hls l (by simp [hl])), argVs_ok h hx.2 e2 (fun l hl => hls l (by
        simp only [List.flatMap_cons, List.mem_append]; exact .inr hl))⟩
    · cases ha
  | [], _, _ :: _, hx, _, _ => hx.elim
  | _ :: _, _, [], hx, _, _ => hx.elim

theorem evs_ok (h : Rel N w0 im β st a w) : ∀ (xs : List Operand), RVl im w β st.mem (xs.map fun x => ev st.env (cO x)) (xs.map a.eval)
  | [] => trivial
  | x :: xs => ⟨ev_ok h x, evs_ok h xs⟩

/-- A new thing, and more that is sealed. -/
theorem MemOK.add' {m : Nat → Option Obj} {im' : Nat → Prop} {w' : World} (h : MemOK w0 im β m w) {d : Nat} {o : Obj} {bi : BI} (hd : m d = none) (hb : Below w.heap.size w w')
    (hi : ∀ b, im b → im' b) (hn : ∀ b, im' b → im b ∨ w.heap.size ≤ b) (him : ∀ b, im' b → b < w'.heap.size)
    (ha : ∀ b, Owns (upd β d bi) (upd m d (some o)) d b → w.heap.size ≤ b ∧ b < w'.heap.size ∧ ¬ im' b) (hlo : loose o = true)
    (ho : Ext im' im' w' w' β (upd β d bi) m (upd m d (some o)) → RObj im' w' (upd β d bi) (upd m d (some o)) d o) :
    MemOK w0 im' (upd β d bi) (upd m d (some o)) w' ∧ Ext im im' w w' β (upd β d bi) m (upd m d (some o)) := by
  obtain ⟨h1, e1⟩ := h.grow hb hi hn him
  have hext : Ext im' im' w' w' β (upd β d bi) m (upd m d (some o)) := by
    refine ⟨fun _ h => h, fun _ _ => rfl, fun l hl => ?_, fun l k rows hl => ?_⟩
    · have hne : l ≠ d := by intro e; subst e; rw [hd] at hl; simp [isBox] at hl
      simp [upd, hne, hl]
    · have hne : l ≠ d := by intro e; subst e; rw [hd] at hl; simp [rowOf] at hl
      exact ⟨rows, by simp [upd, hne, hl], Nat.le_refl _, fun _ => by simp [upd, hne]⟩
  refine ⟨h1.change hext rfl (fun l' hl' => by simp [upd, hl']) (fun _ _ _ _ => rfl) (Nat.le_refl _) (ho hext) (fun b hb' => ?_) h1.iml (fun _ _ _ _ hi => hi) h1.below (fun _ h _ => h), ?_⟩
  · obtain ⟨g1, g2, g3⟩ := ha b hb'
    refine ⟨Nat.le_trans h.below.size g1, g2, fun l' hl' hc => ?_, by simp only [hlo, true_iff]; exact g3⟩
    cases hm : m l' with
    | none => simp [Owns, hm] at hc
    | some o'' => have := (h.own l' o'' b hm hc).2.1; omega
  · exact ⟨e1.hi, e1.hw, fun l hl => hext.box l hl, fun l k rows hl => hext.row l k rows hl⟩

theorem Ext.trans {i1 i2 i3 : Nat → Prop} {w1 w2 w3 : World} {b1 b2 b3 : Nat → BI} {m1 m2 m3 : Nat → Option Obj} (h : Ext i1 i2 w1 w2 b1 b2 m1 m2) (k : Ext i2 i3 w2 w3 b2 b3 m2 m3) : Ext i1 i3 w1 w3 b1 b3 m1 m3 := by
  refine ⟨fun b hb => k.hi b (h.hi b hb), fun b hb => (k.hw b (h.hi b hb)).trans (h.hw b hb), fun l hl => ?_, fun l kk rows hr => ?_⟩
  · obtain ⟨g1, g2⟩ := h.box l hl
    obtain ⟨g3, g4⟩ := k.box l g1
    exact ⟨g3, g4.trans g2⟩
  · obtain ⟨r2, g1, g2, g3⟩ := h.row l kk rows hr
    obtain ⟨r3, g4, g5, g6⟩ := k.row l kk r2 g1
    refine ⟨r3, g4, Nat.le_trans g2 g5, fun he => ?_⟩
    have e2 : r2.length = rows.length := by omega
    have e3 : r3.length = r2.length := by omega
    exact ⟨(g6 e3).1.trans (g3 e2).1, (g6 e3).2.trans (g3 e2).2⟩

theorem RV.wider {i i' : Nat → Prop} {x : V} {u : Value} (h : RV i w β0 m0 x u) (hi : ∀ b, i b → i' b) : RV i' w β0 m0 x u :=
  RV.ext (β := β0) (β' := β0) (m := m0) (m' := m0) ⟨hi, fun _ _ => rfl, fun _ h => ⟨h, rfl⟩, fun _ _ rows h => ⟨rows, h, Nat.le_refl _, fun _ => ⟨rfl, rfl⟩⟩⟩ x u h

/-- A fresh slice comes into the frame. -/
theorem fresh_ok {m : Nat → Option Obj} {w' : World} (h : MemOK w0 im β m w) {d k : Nat} {rows : List (List S)} {u : Value} (hd : m d = none) (hb : Below w.heap.size w w') (hr : RRes im w w' (.fresh k rows) u) :
    ∃ im' β', MemOK w0 im' β' (upd m d (some (.row k rows))) w' ∧ Ext im im' w w' β β' m (upd m d (some (.row k rows))) ∧ RV im' w' β' (upd m d (some (.row k rows))) (.c (.own d rows.length)) u := by
  obtain ⟨ad, cap, rfl, hle, hc⟩ := hr
  rcases hc with rfl | ⟨b, arr, T, rfl, g1, g2, g3, g4, g5⟩
  · obtain ⟨q1, q2⟩ := h.add' (im' := grown im w w') (d := d) (o := .row k rows) (bi := ⟨ad, 0, none⟩) hd hb (fun _ h => .inl h) (fun b hb' => hb'.imp id (·.1)) (fun b hb' => hb'.elim (fun h' => Nat.lt_of_lt_of_le (h.iml b h') hb.size) (·.2))
      (fun b hb' => by simp [Owns, upd] at hb') rfl (fun _ => ⟨by simpa [upd] using hle, .inl (by simp [upd])⟩)
    exact ⟨_, _, q1, q2, k, rows, by simp [upd, rowOf], Nat.le_refl _, ⟨_, _, rfl⟩, fun _ => by simp [upd]⟩
  · obtain ⟨q1, q2⟩ := h.add' (im' := fun b' => grown im w w' b' ∧ b' ≠ b) (d := d) (o := .row k rows) (bi := ⟨some ⟨b, 0, none⟩, cap, none⟩) hd hb (fun b' h' => ⟨.inl h', fun e => by have := h.iml b' h'; omega⟩) (fun b hb' => hb'.1.imp id (·.1))
      (fun b hb' => hb'.1.elim (fun h' => Nat.lt_of_lt_of_le (h.iml b h') hb.size) (·.2))
      (fun b' hb' => by simp [Owns, upd] at hb'; obtain ⟨rfl, _⟩ := hb'; exact ⟨g1, g2, fun hh => hh.2 rfl⟩) rfl
      (fun e => ⟨by simpa [upd] using hle, .inr ⟨b, arr, T, by simp [upd], g3, by simpa [upd] using g4, RRows.mono e.hi e.hw k b 0 rows rfl g5⟩⟩)
    exact ⟨_, _, q1, q2, k, rows, by simp [upd, rowOf], Nat.le_refl _, ⟨_, _, rfl⟩, fun _ => by simp [upd]⟩

theorem call_ok {Γ : FuncId → Spec} (hΓ : ∀ f, Contract P f (Γ f)) (h : MemOK w0 im β st.mem w) {f : FuncId} {vals : List V} {vs : Array Value} {d : Nat} {o : Oper} (hv : RVl im w β st.mem vals vs.toList)
    (hrun : Callable P f → (execOp a.eval o).run P w = .ok (.enter f vs) w) (hr : callR Γ f d st.mem vals = some (v, ups)) : OpOK P w0 im β st.mem a w o v (setAll st.mem ups) := by
  unfold callR at hr
  split at hr
  · rename_i vs' hvs
    split at hr
    · rename_i r hF
      have hargs := argVs_ok h hv hvs (ls := vals.flatMap locV) (fun l hl => hl)
      obtain ⟨hS, eS⟩ := h.sealOK (vals.flatMap locV)
      obtain ⟨hc, hcalls⟩ := hΓ f _ w vs' vs r hS.iml hargs hF
      split at hr
      · rename_i v' ups' hres
        intro next Q hnext
        unfold Oper.wp
        rw [hrun hc, Oper.upon_enter]
        refine hcalls.mono ?_
        rintro e w' ⟨u, rfl, hb, hrr⟩
        show next (a.put o.dst u) w'
        by_cases hcond : ((vals.flatMap locV).isEmpty || r.refless) = true
        · rw [if_pos hcond] at hr
          simp only [Option.some.injEq, Prod.mk.injEq] at hr
          obtain ⟨rfl, rfl⟩ := hr
          cases r with
          | v x =>
            simp only [resV, Option.some.injEq, Prod.mk.injEq] at hres
            obtain ⟨rfl, rfl⟩ := hres
            obtain ⟨g1, g2⟩ := h.grow (im' := grown im w w') hb (fun _ h => .inl h) (fun b hb' => hb'.imp id (·.1)) (fun b hb' => hb'.elim (fun h' => Nat.lt_of_lt_of_le (h.iml b h') hb.size) (·.2))
            refine hnext u w' _ _ g1 g2 (RV.base ?_ _ _)
            rcases Bool.or_eq_true _ _ ▸ hcond with he | he
            · have hnil : vals.flatMap locV = [] := by simpa using he
              rw [hnil] at hrr
              exact RV.wider hrr (fun b hb' => hb'.imp (fun h' => h'.elim id (fun ⟨l, hl, _⟩ => by cases hl)) id)
            · exact RV.refless he hrr _ _
          | fresh k rows =>
            have hnil : vals.flatMap locV = [] := by
              rcases Bool.or_eq_true _ _ ▸ hcond with he | he
              · simpa using he
              · simp [Res.refless] at he
            simp only [resV] at hres
            split at hres
            · rename_i hd
              simp only [Option.some.injEq, Prod.mk.injEq] at hres
              obtain ⟨rfl, rfl⟩ := hres
              have hsI : sealI im β st.mem (vals.flatMap locV) = im := by
                funext b; rw [hnil]; simp [sealI]
              rw [hsI] at hrr
              obtain ⟨im', β', g1, g2, g3⟩ := fresh_ok h hd hb hrr
              exact hnext u w' im' β' g1 g2 g3
            · cases hres
        · rw [if_neg hcond] at hr
          simp only [Option.some.injEq, Prod.mk.injEq] at hr
          obtain ⟨rfl, rfl⟩ := hr
          rw [setAll_append, setAll_sealL] at hnext
          cases r with
          | v x =>
            simp only [resV, Option.some.injEq, Prod.mk.injEq] at hres
            obtain ⟨rfl, rfl⟩ := hres
            obtain ⟨g1, g2⟩ := hS.grow (im' := grown (sealI im β st.mem (vals.flatMap locV)) w w') hb (fun _ h => .inl h) (fun b hb' => hb'.imp id (·.1)) (fun b hb' => hb'.elim (fun h' => Nat.lt_of_lt_of_le (hS.iml b h') hb.size) (·.2))
            exact hnext u w' _ _ g1 (eS.trans g2) (RV.base hrr _ _)
          | fresh k rows =>
            simp only [resV] at hres
            split at hres
            · rename_i hd
              simp only [Option.some.injEq, Prod.mk.injEq] at hres
              obtain ⟨rfl, rfl⟩ := hres
              have hd' : sealM st.mem (vals.flatMap locV) d = none := by unfold sealM; split <;> simp [hd]
              obtain ⟨im', β', g1, g2, g3⟩ := fresh_ok hS hd' hb hrr
              exact hnext u w' im' β' g1 (eS.trans g2) g3
            · cases hres
      · cases hr
    · cases hr
  · cases hr

theorem callFunc_run {f : FuncId} (h : Callable P f) (vs : Array Value) : (callFunc f vs).run P w = .ok (.enter f vs) w := by
  obtain ⟨fn, h1, h2, h3⟩ := h
  have h2' : fn.body ≠ none := by intro e; rw [e] at h2; cases h2
  have h3' : fn.name ≠ "runtime.NumGoroutine" := by intro e; rw [e] at h3; simp at h3
  simp [callFunc, h1, h2', h3']

theorem callf_ok {Γ : FuncId → Spec} (hΓ : ∀ f, Contract P f (Γ f)) (h : Rel N w0 im β st a w) {f : FuncId} {c : Call} {d : Nat} {o : Oper} (ho : o.op = .call c) (hc : c.callee = .value (.func f))
    (hr : callR Γ f d st.mem (c.args.toList.map fun x => ev st.env (cO x)) = some (v, ups)) : OpOK P w0 im β st.mem a w o v (setAll st.mem ups) := by
  refine call_ok hΓ h.mem (vs := c.args.map a.eval) (by rw [Array.toList_map]; exact evs_ok h c.args.toList) (fun hcal => ?_) hr
  simp [execOp, ho, resolve, hc, Act.eval, Deferred.ofValue, invoke, callFunc_run hcal]

theorem RVl.append {m : Nat → Option Obj} : ∀ {xs ys : List V} {vs us : List Value}, RVl im w β m xs vs → RVl im w β m ys us → RVl im w β m (xs ++ ys) (vs ++ us)
  | [], _, [], _, _, h => h
  | _ :: _, _, _ :: _, _, h, h' => ⟨h.1, RVl.append h.2 h'⟩
  | [], _, _ :: _, _, h, _ => h.elim
  | _ :: _, _, [], _, h, _ => h.elim

theorem RVals.toVl {m : Nat → Option Obj} : ∀ {xs : List S} {vs : List Value}, RVals im w xs vs → RVl im w β m (xs.map fun x => V.c (C.s x)) vs
  | [], [], _ => trivial
  | _ :: _, _ :: _, h => by simp only [RVals] at h; exact ⟨h.1, RVals.toVl h.2⟩
  | [], _ :: _, h => by simp [RVals] at h
  | _ :: _, [], h => by simp [RVals] at h

theorem callv_ok {Γ : FuncId → Spec} (hΓ : ∀ f, Contract P f (Γ f)) (h : Rel N w0 im β st a w) {x : Operand} {c : Call} {d : Nat} {o : Oper} (ho : o.op = .call c) (hc : c.callee = .value x)
    (hr : runCallv Γ d st.mem (ev st.env (cO x) :: c.args.toList.map fun x => ev st.env (cO x)) = some (v, ups)) : OpOK P w0 im β st.mem a w o v (setAll st.mem ups) := by
  unfold runCallv at hr
  split at hr
  · rename_i f caps vals e
    simp only [List.cons.injEq] at e
    obtain ⟨e1, rfl⟩ := e
    have hx := ev_ok h x; rw [e1] at hx
    simp only [RV, RC, RS] at hx
    obtain ⟨cs, ex, hcs⟩ := hx
    refine call_ok hΓ h.mem (vs := c.args.map a.eval ++ cs) (by
      rw [Array.toList_append, Array.toList_map]; exact RVl.append (evs_ok h c.args.toList) (RVals.toVl hcs)) (fun hcal => ?_) hr
    simp [execOp, ho, resolve, hc, ex, Deferred.ofValue, invoke, callFunc_run hcal]
  · cases hr

end
end Go.Ab
