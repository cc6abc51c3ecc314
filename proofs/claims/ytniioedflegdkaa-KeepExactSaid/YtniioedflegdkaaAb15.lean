/- A contract out of a body. -/
import Derived.Test.YtniioedflegdkaaAb14
set_option linter.all false
namespace Go.Ab
open Go Go.RowKit

inductive RVar where
  | tmp (t : Nat)
  | cell (a n : Nat) (agg : Bool)

def cResult (P : Program) : ResultVar → Option RVar
  | .tmp t => some (.tmp t)
  | .cell a t => match P.underlying t, sizeT P t with
    | some _, some n => some (.cell a n (isAggT P t))
    | _, _ => none
def cResults (P : Program) : List ResultVar → Option (List RVar)
  | [] => some []
  | x :: r => match cResult P x, cResults P r with
    | some y, some ys => some (y :: ys)
    | _, _ => none

def resVals : List RVar → AS → Option (List V)
  | [], _ => some []
  | .tmp t :: r, s => match resVals r s with
    | some vs => some (s.env t :: vs)
    | none => none
  | .cell a n agg :: r, s => match runLoad n agg s.mem [s.env a], resVals r s with
    | some (v, _), some vs => some (v :: vs)
    | _, _ => none

/-- The one says more than the other: a slice of no rows has none of any width; a capacity may be forgotten. -/
def Sle (x y : S) : Prop := x = y ∨ (∃ k k' f f', x = .list k [] f ∧ y = .list k' [] f' ∧ (f' = true → f = true)) ∨ (∃ k rows f, x = .list k rows f ∧ y = .list k rows false)
theorem Sle.rfl {x : S} : Sle x x := .inl _root_.rfl

def outS (m : Nat → Option Obj) : C → S → Prop
  | .s x, y => Sle x y
  | .own l n, y => ∃ k rows, rowOf (m l) = some (k, rows) ∧ n = rows.length ∧ y = .list k rows false
  | _, _ => False
def outCs (m : Nat → Option Obj) : List C → List C → Prop
  | [], [] => True
  | x :: xs, .s y :: ys => outS m x y ∧ outCs m xs ys
  | _, _ => False
def outV (m : Nat → Option Obj) : V → V → Prop
  | .c x, .c (.s y) => outS m x y
  | .c (.s (.bool _)), .tf => True
  | .tf, .tf => True
  | .agg xs, .agg ys => outCs m xs ys
  | _, _ => False
def outTs (m : Nat → Option Obj) : List V → List (C ⊕ List C) → Prop
  | [], [] => True
  | .c x :: r, .inl (.s y) :: ps => outS m x y ∧ outTs m r ps
  | .agg xs :: r, .inr ys :: ps => outCs m xs ys ∧ outTs m r ps
  | _, _ => False
def outR (m : Nat → Option Obj) : List V → Res → Prop
  | [], .v .undef => True
  | [x], .v y => outV m x y
  | [.c (.own l n)], .fresh k rows => m l = some (.row k rows) ∧ n = rows.length
  | [.c (.s (.list _ r f))], .fresh _ rows => f = true ∧ r = [] ∧ rows = []
  | x :: y :: r, .v (.tup ps) => outTs m (x :: y :: r) ps
  | _, _ => False

def postQ (rs : List RVar) (r : Res) : Exit → AS → Prop
  | .normal, s | .ret, s => ∃ vs, resVals rs s = some vs ∧ outR s.mem vs r
  | _, _ => False

def initS (args : List V) : AS := ⟨fun i => (args[i]?).getD .junk, fun _ => none⟩

section
variable {im : Nat → Prop} {w w' : World} {β : Nat → BI} {P : Program} {N : Nat} {st : AS} {a : Act} {m : Nat → Option Obj}

theorem RVl.get {m : Nat → Option Obj} : ∀ {xs : List V} {vs : List Value} (i : Nat), RVl im w β m xs vs → RV im w β m ((xs[i]?).getD .junk) (vs.getD i Go.undef) ∨ xs.length ≤ i
  | [], _, _, _ => .inr (by simp)
  | x :: xs, v :: vs, 0, h => .inl h.1
  | x :: xs, v :: vs, i + 1, h => by simpa using RVl.get i h.2
  | _ :: _, [], _, h => h.elim

theorem RVl.length {m : Nat → Option Obj} : ∀ {xs : List V} {vs : List Value}, RVl im w β m xs vs → xs.length = vs.length
  | [], [], _ => rfl
  | _ :: _, _ :: _, h => by simp [RVl.length h.2]
  | [], _ :: _, h => h.elim
  | _ :: _, [], h => h.elim

/-! ### Results -/
theorem results_ok {w0 : W0} (h : Rel N w0 im β st a w) {l : List ResultVar} {rs : List RVar} {vs : List V} (hrs : cResults P l = some rs) (hvs : resVals rs st = some vs)
    (fr : ResultVar → Sem Value) (hf1 : ∀ t, fr (.tmp t) = pure (a.tmps.getD t Go.undef)) (hf2 : ∀ x t, fr (.cell x t) = (do loadVar t (← asAddr (a.tmps.getD x Go.undef)) : Sem Value)) :
    ∃ us : List Value, (l.mapM (m := Sem) fr).run P w = .ok us w ∧ RVl im w β st.mem vs us := by
  induction l generalizing rs vs with
  | nil =>
    simp only [cResults, Option.some.injEq] at hrs; subst hrs
    simp only [resVals, Option.some.injEq] at hvs; subst hvs
    exact ⟨[], by simp, trivial⟩
  | cons x l ih =>
    simp only [cResults] at hrs
    split at hrs
    · rename_i y ys e1 e2
      simp only [Option.some.injEq] at hrs; subst hrs
      cases x with
      | tmp t =>
        simp only [cResult, Option.some.injEq] at e1; subst e1
        simp only [resVals] at hvs
        split at hvs
        · rename_i vs' e3
          simp only [Option.some.injEq] at hvs; subst hvs
          obtain ⟨us, g1, g2⟩ := ih e2 e3
          exact ⟨a.tmps.getD t Go.undef :: us, by simp only [List.mapM_cons, hf1, Sem.run_bind, Sem.run_pure, Result.andThen_ok, g1], h.env t, g2⟩
        · cases hvs
      | cell x t =>
        simp only [cResult] at e1
        split at e1
        · rename_i d n hu hn
          simp only [Option.some.injEq] at e1; subst e1
          simp only [resVals] at hvs
          split at hvs
          · rename_i v _ vs' e4 e3
            simp only [Option.some.injEq] at hvs; subst hvs
            obtain ⟨us, g1, g2⟩ := ih e2 e3
            obtain ⟨rfl, u, hy, hv⟩ := load_ok h hu hn (x := .tmp x) (by simpa [cO, ev] using e4)
            have hl : (do loadVar t (← asAddr (a.tmps.getD x Go.undef)) : Sem Value).run P w = .ok u w := by
              have hy' := hy { (default : Oper) with op := .load t (.tmp x) } rfl
              simp only [Yld, execOp, Act.eval, Instr.loadAt, Sem.run_bind] at hy'
              rw [Sem.run_bind]
              generalize hq : a.tmps.getD x Go.undef = q at hy' ⊢
              cases q <;> simp [Instr.sureAddr, asAddr, stuck, Result.andThen] at hy' ⊢
              rename_i ad
              cases ad with
              | none => simp [Sem.run] at hy'
              | some ad =>
                simp only [Sem.run_pure] at hy'
                simp only [Sem.run_pure]
                cases hr : (loadVar t ad).run P w with
                | ok x w2 => rw [hr] at hy'; simp at hy'; obtain ⟨rfl, rfl⟩ := hy'; rfl
                | halt x w2 => rw [hr] at hy'; simp at hy'
            refine ⟨u :: us, ?_, hv, g2⟩
            simp only [List.mapM_cons, hf2]
            rw [Sem.run_bind, hl]
            simp only [Result.andThen_ok, Sem.run_bind, g1, Sem.run_pure]
          · cases hvs
        · cases e1
    · cases hrs

/-! ### What comes out -/
theorem Sle_ok {x y : S} {u : Value} (h : Sle x y) (hx : RS im w x u) : RS im w y u := by
  rcases h with rfl | ⟨k, k', f, f', rfl, rfl, hf⟩ | ⟨k, rows, f, rfl, rfl⟩
  · exact hx
  · simp only [RS] at *
    obtain ⟨a, cap, h1, h2, h3, _⟩ := hx
    exact ⟨a, cap, h1, h2, fun h => h3 (hf h), by simp⟩
  · simp only [RS] at *
    obtain ⟨a, cap, h1, h2, h3, h4⟩ := hx
    exact ⟨a, cap, h1, h2, by simp, h4⟩

theorem im_grown {w0 : W0} (h : MemOK w0 im β m w') {b : Nat} (hb : im b) : grown w0.im0 w0.toWorld w' b := by
  by_cases hlt : b < w0.heap.size
  · exact .inl (h.old b hb hlt)
  · exact .inr ⟨by omega, h.iml b hb⟩

theorem outS_ok {w0 : W0} (h : MemOK w0 im β m w') {x : C} {y : S} {u : Value} (ho : outS m x y) (hx : RC im w' β m x u) : RS (grown w0.im0 w0.toWorld w') w' y u := by
  cases x with
  | s x => exact RS.mono (fun b hb => im_grown h hb) (fun _ _ => rfl) y u (Sle_ok ho hx)
  | own l n =>
    obtain ⟨k, rows, g1, g2, rfl⟩ := ho
    obtain ⟨k2, rows2, f1, f2, f3, f4⟩ := hx
    rw [g1] at f1
    simp only [Option.some.injEq, Prod.mk.injEq] at f1
    obtain ⟨rfl, rfl⟩ := f1
    have ex := f4 g2
    have hor : ownRows m l n = some (k, rows) := by
      unfold ownRows
      unfold rowOf at g1
      split at g1
      · rename_i k' r' e
        simp only [Option.some.injEq, Prod.mk.injEq] at g1
        obtain ⟨rfl, rfl⟩ := g1
        simp [e, g2]
      · rename_i k' r' e
        simp only [Option.some.injEq, Prod.mk.injEq] at g1
        obtain ⟨rfl, rfl⟩ := g1
        simp [e, g2]
      · cases g1
    obtain ⟨q1, q2⟩ := own_row (st := ⟨fun _ => .junk, m⟩) h hor
    simp only [RS]
    refine ⟨_, _, by rw [ex, g2], q1, by simp, fun hne => ?_⟩
    have hcap : (β l).cap ≠ 0 := by
      intro h0; apply hne; apply List.eq_nil_of_length_eq_zero; omega
    rcases q2 with q2 | ⟨b, q2, q3⟩
    · exact absurd q2 hcap
    · obtain ⟨_, _, e | e⟩ := ownRows_some hor
      · have := h.own l _ b e (by simp [Owns, e, q2, hcap])
        exact ⟨b, 0, q2, .inr ⟨this.1, this.2.1⟩, RRows.mono (fun b hb => im_grown h hb) (fun _ _ => rfl) k b 0 rows rfl q3⟩
      · have := h.own l _ b e (by simp [Owns, e, q2, hcap])
        exact ⟨b, 0, q2, .inr ⟨this.1, this.2.1⟩, RRows.mono (fun b hb => im_grown h hb) (fun _ _ => rfl) k b 0 rows rfl q3⟩
  | ptr l o => exact ho.elim
  | optr l n i o => exact ho.elim

theorem outCs_ok {w0 : W0} (h : MemOK w0 im β m w') : ∀ {xs ys : List C} {vs : List Value}, outCs m xs ys → RCs im w' β m xs vs → RCs (grown w0.im0 w0.toWorld w') w' β0 m0 ys vs
  | [], [], [], _, _ => trivial
  | _ :: _, .s _ :: _, _ :: _, ho, hx => ⟨outS_ok h ho.1 hx.1, outCs_ok h ho.2 hx.2⟩
  | [], _ :: _, _, ho, _ => ho.elim
  | _ :: _, [], _, ho, _ => ho.elim
  | _ :: _, .ptr .. :: _, _, ho, _ => ho.elim
  | _ :: _, .own .. :: _, _, ho, _ => ho.elim
  | _ :: _, .optr .. :: _, _, ho, _ => ho.elim
  | [], [], _ :: _, _, hx => hx.elim
  | _ :: _, .s _ :: _, [], _, hx => hx.elim

theorem outV_ok {w0 : W0} (h : MemOK w0 im β m w') {x y : V} {u : Value} (ho : outV m x y) (hx : RV im w' β m x u) : RV (grown w0.im0 w0.toWorld w') w' β0 m0 y u := by
  unfold outV at ho
  split at ho
  · exact outS_ok h ho hx
  · simp only [RV, RC, RS] at hx; exact ⟨_, hx⟩
  · exact hx
  · obtain ⟨cs, e, hc⟩ := hx; exact ⟨cs, e, outCs_ok h ho hc⟩
  · exact ho.elim

theorem outTs_ok {w0 : W0} (h : MemOK w0 im β m w') : ∀ {xs : List V} {ys : List (C ⊕ List C)} {vs : List Value}, outTs m xs ys → RVl im w' β m xs vs → RTs (grown w0.im0 w0.toWorld w') w' β0 m0 ys vs := by
  intro xs
  induction xs with
  | nil =>
    intro ys vs ho hx
    cases ys with
    | nil => cases vs with
      | nil => trivial
      | cons _ _ => exact hx.elim
    | cons _ _ => exact ho.elim
  | cons x xs ih =>
    intro ys vs ho hx
    cases vs with
    | nil => exact hx.elim
    | cons v vs =>
      unfold outTs at ho
      split at ho
      · rename_i e; cases e
      · rename_i x' r y ps e
        obtain ⟨rfl, rfl⟩ := List.cons.inj e
        exact ⟨outS_ok h ho.1 hx.1, ih ho.2 hx.2⟩
      · rename_i xs' r y ps e
        obtain ⟨rfl, rfl⟩ := List.cons.inj e
        obtain ⟨cs, e2, hc⟩ := hx.1
        exact ⟨⟨cs, e2, outCs_ok h ho.1 hc⟩, ih ho.2 hx.2⟩
      · exact ho.elim

theorem outR_ok {w0 : W0} (h : MemOK w0 im β m w') {vs : List V} {us : List Value} {r : Res} (ho : outR m vs r) (hx : RVl im w' β m vs us) :
    RRes w0.im0 w0.toWorld w' r (if h : us.toArray.size = 1 then us.toArray[0] else .tuple us.toArray) := by
  unfold outR at ho
  split at ho
  · cases us with
    | nil => rfl
    | cons _ _ => exact hx.elim
  · rename_i x y
    match us, hx with
    | [u], hx => exact outV_ok h ho hx.1
    | _ :: _ :: _, hx => exact hx.2.elim
  · rename_i l n k rows
    match us, hx with
    | [u], hx =>
      obtain ⟨e, g2⟩ := ho
      obtain ⟨k2, rows2, f1, f2, f3, f4⟩ := hx.1
      simp only [rowOf, e, Option.some.injEq, Prod.mk.injEq] at f1
      obtain ⟨rfl, rfl⟩ := f1
      have ex := f4 g2
      obtain ⟨q1, q2⟩ := h.obj l _ e
      refine ⟨(β l).a, (β l).cap, by rw [← g2]; exact ex, q1, ?_⟩
      by_cases hcap : (β l).cap = 0
      · exact .inl hcap
      rcases q2 with q2 | ⟨b, arr, T, q2, q3, q4, q5⟩
      · exact .inl q2
      · have hown := h.own l _ b e (by simp [Owns, e, q2, hcap])
        have hni : ¬ im b := hown.2.2.1 rfl
        exact .inr ⟨b, arr, T, q2, hown.1, hown.2.1, q3, q4, RRows.mono (fun b' hb' => ⟨im_grown h hb', fun e => hni (e ▸ hb')⟩) (fun _ _ => rfl) k b 0 rows rfl q5⟩
    | _ :: _ :: _, hx => exact hx.2.elim
  · rename_i k' rr f k rows
    match us, hx with
    | [u], hx =>
      obtain ⟨rfl, rfl, rfl⟩ := ho
      have h1 := hx.1
      simp only [RV, RC, RS] at h1
      obtain ⟨ad, cap, e, _, h3, _⟩ := h1
      have : cap = 0 := by simpa using h3
      subst this
      exact ⟨ad, 0, e, Nat.le_refl _, .inl rfl⟩
    | _ :: _ :: _, hx => exact hx.2.elim
  · rename_i x y r ps
    match us, hx with
    | u1 :: u2 :: us, hx =>
      have := outTs_ok h ho hx
      rw [dif_neg (by simp)]
      exact ⟨_, rfl, this⟩
    | [_], hx => exact hx.2.elim
  · exact ho.elim

/-- **A contract out of a body.** -/
theorem contract_of {Γ : FuncId → Spec} (hΓ : ∀ f, Contract P f (Γ f)) (hB : BldOK P) (hD : DrawOK P) {f : FuncId} {fn : Func} {c : Code} {F : Spec} {n : Nat} {rs : List RVar} {sc : SC}
    (hf : P.funcs[f]? = some fn) (hb : fn.body = some c) (hn : (fn.name == "runtime.NumGoroutine") = false) (hN : codeOk fn.ntmps c = true) (hsc : cCode P c = sc) (hrs : cResults P fn.results.toList = some rs) (hle : n ≤ fn.ntmps)
    (hlen : ∀ args r, F args = some r → args.length = n) (H : ∀ args r, F args = some r → awp Γ sc (postQ rs r) (initS args)) : Contract P f F := by
  intro im w args vs r him hargs hF
  refine ⟨⟨fn, hf, by simp [hb], hn⟩, ?_⟩
  have hl := RVl.length hargs
  simp only [Array.length_toList] at hl
  have hln := hlen args r hF
  let w0 : W0 := { toWorld := w, im0 := im }
  have hrel : Rel fn.ntmps w0 im β0 (initS args) { tmps := vs ++ Array.replicate (fn.ntmps - vs.size) Go.undef, defers := [] } w := by
    refine ⟨by simp; omega, rfl, fun i => ?_, ⟨fun l o h => (by cases h), fun l l' b h _ => h.elim, fun l o b h _ => (by cases h), him, Below.refl _ _, fun b hb _ => hb⟩⟩
    simp only [initS]
    by_cases hi : i < args.length
    · rcases RVl.get i hargs with h1 | h1
      · have e : (vs ++ Array.replicate (fn.ntmps - vs.size) Go.undef).getD i Go.undef = vs.toList.getD i Go.undef := by
          rw [Array.getD_eq_getD_getElem?, Array.getElem?_append_left (by omega)]
          simp [List.getD]
        rw [e]
        exact RV.base h1 _ _
      · omega
    · rw [List.getElem?_eq_none (by omega)]; trivial
  refine calls_of_wp hf hb ?_
  subst hsc
  refine awp_ok hΓ hB hD c _ _ hN (H args r hF) im β0 _ w _ hrel ?_
  intro e st' im' β' a' w' hq hr'
  have fin : (∃ vs, resVals rs st' = some vs ∧ outR st'.mem vs r) → ∃ u, (results fn a'.tmps).run P w' = .ok u w' ∧ (∃ u', Ending.returned u = .returned u' ∧ Below w.heap.size w w' ∧ RRes im w w' r u') := by
    rintro ⟨vs', hvs, ho⟩
    obtain ⟨us, g1, g2⟩ := results_ok (P := P) hr' hrs hvs (fun
      | .tmp t => pure (a'.tmps.getD t Go.undef)
      | .cell x t => do loadVar t (← asAddr (a'.tmps.getD x Go.undef))) (fun _ => rfl) (fun _ _ => rfl)
    refine ⟨_, ?_, _, rfl, hr'.mem.below, outR_ok hr'.mem ho g2⟩
    have e : (results fn a'.tmps) = (do
        let vs ← fn.results.mapM (m := Sem) (fun
          | .tmp t => pure (a'.tmps.getD t Go.undef)
          | .cell x t => do loadVar t (← asAddr (a'.tmps.getD x Go.undef)))
        pure (if h : vs.size = 1 then vs[0] else .tuple vs)) := by
      unfold results
      rfl
    rw [e, Sem.run_bind, Array.mapM_eq_mapM_toList, Sem.run_map, g1]
    simp
  cases e with
  | normal => obtain ⟨u, h1, h2⟩ := fin hq; exact ⟨hr'.defers, u, h1, h2⟩
  | ret => obtain ⟨u, h1, h2⟩ := fin hq; exact ⟨hr'.defers, u, h1, h2⟩
  | exit id => exact hq.elim
  | goto l => exact hq.elim
  | panic ch => exact hq.elim
  | outgrown => exact hq.elim
end
end Go.Ab
