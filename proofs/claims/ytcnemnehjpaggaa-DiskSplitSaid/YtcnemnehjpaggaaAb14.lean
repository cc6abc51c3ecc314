/- Regions in the order of the text; a body; a contract out of a body. -/
import Derived.Test.YtcnemnehjpaggaaAb13
import Derived.Deep.LoopGhost
set_option linter.all false
namespace Go.Ab
open Go Go.RowKit

section
variable {im : Nat → Prop} {w : World} {β : Nat → BI} {P : Program} {N : Nat} {w0 : W0} {st : AS} {a : Act}

/-- The state behind an operation. -/
theorem Rel.put (h : Rel N w0 im β st a w) {d : Option Nat} {u : Value} {v : V} {m' : Nat → Option Obj} {w' : World} {im' : Nat → Prop} {β' : Nat → BI} (hd : ∀ i, d = some i → i < N)
    (hm : MemOK w0 im' β' m' w') (he : Ext im im' w w' β β' st.mem m') (hv : RV im' w' β' m' v u) : Rel N w0 im' β' ⟨putD st.env d v, m'⟩ (a.put d u) w' := by
  cases d with
  | none => exact ⟨h.size, h.defers, fun i => RV.ext he _ _ (h.env i), hm⟩
  | some i =>
    refine ⟨by simp [Act.put, h.size], h.defers, fun j => ?_, hm⟩
    simp only [putD, upd, Act.put]
    by_cases e : j = i
    · subst e
      have hlt : j < a.tmps.size := by rw [h.size]; exact hd j rfl
      simp [hlt, hv]
    · have hne : ¬ i = j := fun e' => e e'.symm
      rw [if_neg e]
      have : (a.tmps.setIfInBounds i u).getD j Go.undef = a.tmps.getD j Go.undef := by
        simp [hne]
      rw [this]
      exact RV.ext he _ _ (h.env j)

theorem want_ok (h : Rel N w0 im β st a w) {ops : Array Oper} {o : Oper} {g : Option (Nat × Bool)} {b : Bool} (hg : cGuard ops o.guard = some g) (hw : want st.env g = some b) : Region.wanted o (yielded ops a.tmps) = b := by
  unfold cGuard at hg
  unfold Region.wanted
  cases ho : o.guard with
  | none =>
    rw [ho] at hg
    simp only [Option.some.injEq] at hg; subst hg
    simp only [want, Option.some.injEq] at hw
    exact hw
  | some jb =>
    obtain ⟨j, bb⟩ := jb
    rw [ho] at hg
    simp only at hg
    split at hg
    · rename_i s hs
      simp only [Option.some.injEq] at hg; subst hg
      simp only [want] at hw
      have henv := h.env s
      simp only [yielded, hs, Option.bind_some]
      split at hw
      · rename_i x e
        rw [e] at henv
        simp only [RV, RC, RS] at henv
        simp only [Option.some.injEq] at hw
        have : a.tmps[s]? = some (.bool x) := by
          rw [Array.getD_eq_getD_getElem?] at henv
          cases ht : a.tmps[s]? with
          | none => rw [ht] at henv; simp [Go.undef] at henv
          | some y => rw [ht] at henv; simp at henv; rw [henv]
        rw [this]
        simp only
        rw [← hw]
        cases x <;> cases bb <;> rfl
      · rename_i e
        rw [e] at henv
        simp only [RV] at henv
        simp only [Option.some.injEq] at hw
        subst hw
        rw [Array.getD_eq_getD_getElem?] at henv
        cases ht : a.tmps[s]? with
        | none => rfl
        | some y => rw [ht] at henv; simp at henv; rw [henv]; rfl
      · cases hw
    · cases hg

def dstOk (N : Nat) (o : Oper) : Bool := match o.dst with
  | some d => decide (d < N)
  | none => true

theorem step_ok {Γ : FuncId → Spec} (hΓ : ∀ f, Contract P f (Γ f)) (hB : BldOK P) (h : Rel N w0 im β st a w) {ops : Array Oper} {o : Oper} {st' : AS} (hN : dstOk N o = true)
    (hs : step1 Γ (cOper P ops o) st = some st') {next : Act → World → Prop} {Q : Exit → Act → World → Prop} (hn : ∀ a' w' im' β', Rel N w0 im' β' st' a' w' → next a' w') :
    if Region.wanted o (yielded ops a.tmps) then o.wp P a w next Q else next (a.put o.dst Go.undef) w := by
  have hd : ∀ i, o.dst = some i → i < N := fun i hi => by simpa [dstOk, hi] using hN
  unfold cOper at hs
  cases hg : cGuard ops o.guard with
  | none =>
    rw [hg] at hs
    simp [step1, want, run] at hs
  | some g =>
    rw [hg] at hs
    simp only [step1] at hs
    split at hs
    · cases hs
    · rename_i hw
      simp only [Option.some.injEq] at hs; subst hs
      rw [want_ok h hg hw]
      exact hn _ _ _ _ (h.put hd h.mem (Ext.refl _ _ _ _) rfl)
    · rename_i hw
      rw [want_ok h hg hw]
      simp only [if_true]
      split at hs
      · rename_i v ups hr
        simp only [Option.some.injEq] at hs; subst hs
        exact op_ok hΓ hB h hr next Q (fun u w' im' β' hm he hv => hn _ _ _ _ (h.put hd hm he hv))
      · cases hs

theorem steps_ok {Γ : FuncId → Spec} (hΓ : ∀ f, Contract P f (Γ f)) (hB : BldOK P) {ops : Array Oper} {st' : AS} {Q : Exit → Act → World → Prop} (hQ : ∀ a' w' im' β', Rel N w0 im' β' st' a' w' → Q .normal a' w') :
    ∀ (l : List Oper) (st : AS) (a : Act) (w : World) (im : Nat → Prop) (β : Nat → BI), l.all (dstOk N) = true → Rel N w0 im β st a w → steps Γ (l.map (cOper P ops)) st = some st' → wpList P ops Q l a w
  | [], st, a, w, im, β, _, h, hs => by
    simp only [List.map_nil, steps, Option.some.injEq] at hs; subst hs
    exact hQ _ _ _ _ h
  | o :: l, st, a, w, im, β, hN, h, hs => by
    simp only [List.map_cons, steps] at hs
    simp only [List.all_cons, Bool.and_eq_true] at hN
    split at hs
    · rename_i st1 h1
      refine wpList_step fun K hK => ?_
      exact step_ok hΓ hB h hN.1 h1 (fun a' w' im' β' h' => hK _ _ (steps_ok hΓ hB hQ l st1 a' w' im' β' hN.2 h' hs))
    · cases hs
end

/-- One state behind another: whatever bears the one bears the other. -/
def Weak (st st' : AS) : Prop := ∀ (N : Nat) (w0 : W0) (im : Nat → Prop) (β : Nat → BI) (a : Act) (w : World), Rel N w0 im β st a w → ∃ im' β', Rel N w0 im' β' st' a w

theorem Weak.refl (st : AS) : Weak st st := fun _ _ im β _ _ h => ⟨im, β, h⟩
theorem Weak.trans {a b c : AS} (h : Weak a b) (k : Weak b c) : Weak a c := fun N w0 im β x w hr => by
  obtain ⟨im', β', h'⟩ := h N w0 im β x w hr
  exact k N w0 im' β' x w h'

/-- What a body does, said of abstract states. (regD: by Ab15.) -/
def AW (P : Program) (N : Nat) (w0 : W0) (c : Code) (Q : Exit → AS → Prop) (st : AS) : Prop :=
  ∀ (im : Nat → Prop) (β : Nat → BI) (a : Act) (w : World) (R : Exit → Act → World → Prop), Rel N w0 im β st a w →
    (∀ e st' im' β' a' w', Q e st' → Rel N w0 im' β' st' a' w' → R e a' w') → c.wp P R a w

theorem AW.weak {P : Program} {N : Nat} {w0 : W0} {c : Code} {Q : Exit → AS → Prop} {st st' : AS} (h : Weak st st') (k : AW P N w0 c Q st') : AW P N w0 c Q st := fun im β a w R hr hR => by
  obtain ⟨im', β', h'⟩ := h N w0 im β a w hr
  exact k im' β' a w R h' hR

theorem AW.mono {P : Program} {N : Nat} {w0 : W0} {c : Code} {Q Q' : Exit → AS → Prop} {st : AS} (h : AW P N w0 c Q st) (hq : ∀ e s, Q e s → Q' e s) : AW P N w0 c Q' st := fun im β a w R hr hR =>
  h im β a w R hr (fun e st' im' β' a' w' q => hR e st' im' β' a' w' (hq e st' q))

def thenQ (K : AS → Prop) (Q : Exit → AS → Prop) : Exit → AS → Prop
  | .normal, s => K s
  | e, s => Q e s
def blockQ (id : Nat) (Q : Exit → AS → Prop) : Exit → AS → Prop
  | .exit i, s => if i = id then Q .normal s else Q (.exit i) s
  | e, s => Q e s

/-- The locations that an operation of the text's run touches; what it writes. -/
def opLocs (o : Op1) (st : AS) : List Nat :=
  (if touches o.kind then (o.args.map (ev st.env)).flatMap locV else []) ++ (if usesD o.kind then [o.dst.getD 0] else [])

def trace (Γ : FuncId → Spec) : List Op1 → AS → List (List Nat)
  | [], _ => []
  | o :: r, st => match step1 Γ o st with
    | some st' => (if want st.env o.guard = some true then opLocs o st else []) :: trace Γ r st'
    | none => []

def apartL (a b : List Nat) : Bool := a.all fun x => !b.contains x
def pairsOk (t : List (List Nat)) (ps : List (Nat × Nat)) : Bool := ps.all fun p => apartL (t.getD p.1 []) (t.getD p.2 [])

/-- The condition under which the body does what is asked: by the text's order. -/
def awp (Γ : FuncId → Spec) : SC → (Exit → AS → Prop) → AS → Prop
  | .skip, Q, st => Q .normal st
  | .reg ops, Q, st => ∃ st', steps Γ ops st = some st' ∧ Q .normal st'
  | .regD ops ps, Q, st => (∃ st', steps Γ ops st = some st' ∧ Q .normal st') ∧ pairsOk (trace Γ ops st) ps = true
  | .seq x y, Q, st => awp Γ x (thenQ (awp Γ y Q) Q) st
  | .cond c t e, Q, st => match ev st.env c with
    | .c (.s (.bool b)) => (b = true → awp Γ t Q st) ∧ (b = false → awp Γ e Q st)
    | .tf => awp Γ t Q st ∧ awp Γ e Q st
    | _ => False
  | .block id c, Q, st => awp Γ c (blockQ id Q) st
  | .loop c, Q, st => ∃ (I : Nat → AS → Prop) (n0 : Nat) (s0 : AS), Weak st s0 ∧ I n0 s0 ∧
      ∀ n s, I n s → awp Γ c (thenQ (fun s' => ∃ s1 n', Weak s' s1 ∧ n' < n ∧ I n' s1) Q) s
  | .exit id, Q, st => Q (.exit id) st
  | .ret, Q, st => Q .ret st
  | .bad, _, _ => False

/-- Do all slots that are written lie in the frame? -/
def codeOk (N : Nat) : Code → Bool
  | .region _ ops _ => ops.toList.all (dstOk N)
  | .seq a b | .cond _ a b => codeOk N a && codeOk N b
  | .block _ c | .loop c => codeOk N c
  | _ => true

section
variable {P : Program} {N : Nat} {w0 : W0}

/-- What is asked of a region that draws its order. -/
def DrawOK (P : Program) : Prop := ∀ (N : Nat) (w0 : W0) (Γ : FuncId → Spec), (∀ f, Contract P f (Γ f)) → BldOK P → ∀ (id : Nat) (ops : Array Oper) (ps : List (Nat × Nat)) (Q : Exit → AS → Prop) (st st' : AS),
  ops.toList.all (dstOk N) = true → openPairs ops (ops.toList.map (cOper P ops)) = some ps → steps Γ (ops.toList.map (cOper P ops)) st = some st' → Q .normal st' → pairsOk (trace Γ (ops.toList.map (cOper P ops)) st) ps = true →
  AW P N w0 (.region id ops true) Q st

theorem awp_ok {Γ : FuncId → Spec} (hΓ : ∀ f, Contract P f (Γ f)) (hB : BldOK P) (hD : DrawOK P) : ∀ (c : Code) (Q : Exit → AS → Prop) (st : AS), codeOk N c = true → awp Γ (cCode P c) Q st → AW P N w0 c Q st
  | .skip, Q, st, _, h => fun im β a w R hr hR => wp_skip (hR _ _ _ _ _ _ h hr)
  | .label l, Q, st, _, h => fun im β a w R hr hR => wp_label (hR _ _ _ _ _ _ h hr)
  | .exit id, Q, st, _, h => fun im β a w R hr hR => wp_exit (hR _ _ _ _ _ _ h hr)
  | .ret, Q, st, _, h => fun im β a w R hr hR => wp_ret (hR _ _ _ _ _ _ h hr)
  | .region id ops draw, Q, st, hN, h => by
    simp only [codeOk] at hN
    cases draw with
    | false =>
      simp only [cCode, Bool.false_eq_true, if_false, awp] at h
      obtain ⟨st', hs, hq⟩ := h
      exact fun im β a w R hr hR => wp_region_list (steps_ok hΓ hB (fun a' w' im' β' h' => hR _ _ _ _ _ _ hq h') _ _ _ _ _ _ hN hr hs)
    | true =>
      simp only [cCode, if_true] at h
      split at h
      · rename_i ps hps
        simp only [awp] at h
        obtain ⟨⟨st', hs, hq⟩, hp⟩ := h
        exact hD N w0 Γ hΓ hB id ops ps Q st st' hN hps hs hq hp
      · simp [awp] at h
  | .seq x y, Q, st, hN, h => by
    simp only [codeOk, Bool.and_eq_true] at hN
    simp only [cCode, awp] at h
    intro im β a w R hr hR
    refine wp_seq (awp_ok hΓ hB hD x _ st hN.1 h im β a w _ hr ?_)
    intro e st' im' β' a' w' hq hr'
    cases e with
    | normal => exact awp_ok hΓ hB hD y Q st' hN.2 hq im' β' a' w' R hr' hR
    | exit id => exact hR _ _ _ _ _ _ hq hr'
    | goto l => exact hR _ _ _ _ _ _ hq hr'
    | ret => exact hR _ _ _ _ _ _ hq hr'
    | panic ch => exact hR _ _ _ _ _ _ hq hr'
    | outgrown => exact hR _ _ _ _ _ _ hq hr'
  | .cond c t e, Q, st, hN, h => by
    simp only [codeOk, Bool.and_eq_true] at hN
    simp only [cCode, awp] at h
    intro im β a w R hr hR
    have hc := ev_ok hr c
    split at h
    · rename_i b hb
      rw [hb] at hc
      simp only [RV, RC, RS] at hc
      exact wp_cond_split hc (fun ht => awp_ok hΓ hB hD t Q st hN.1 (h.1 ht) im β a w R hr hR) (fun hf => awp_ok hΓ hB hD e Q st hN.2 (h.2 hf) im β a w R hr hR)
    · rename_i hb
      rw [hb] at hc
      obtain ⟨b, hc⟩ := hc
      exact wp_cond_split hc (fun _ => awp_ok hΓ hB hD t Q st hN.1 h.1 im β a w R hr hR) (fun _ => awp_ok hΓ hB hD e Q st hN.2 h.2 im β a w R hr hR)
    · exact h.elim
  | .block id c, Q, st, hN, h => by
    simp only [codeOk] at hN
    simp only [cCode, awp] at h
    intro im β a w R hr hR
    refine wp_block (awp_ok hΓ hB hD c _ st hN h im β a w _ hr ?_)
    intro e st' im' β' a' w' hq hr'
    cases e with
    | exit i =>
      simp only [blockQ] at hq
      simp only [Exit.inBlock]
      split at hq
      · rename_i hi; rw [if_pos hi]; exact hR _ _ _ _ _ _ hq hr'
      · rename_i hi; rw [if_neg hi]; exact hR _ _ _ _ _ _ hq hr'
    | normal => exact hR _ _ _ _ _ _ hq hr'
    | goto l => exact hR _ _ _ _ _ _ hq hr'
    | ret => exact hR _ _ _ _ _ _ hq hr'
    | panic ch => exact hR _ _ _ _ _ _ hq hr'
    | outgrown => exact hR _ _ _ _ _ _ hq hr'
  | .loop c, Q, st, hN, h => by
    simp only [codeOk] at hN
    simp only [cCode, awp] at h
    obtain ⟨I, n0, s0, hw, hI, hround⟩ := h
    intro im β a w R hr hR
    obtain ⟨im0, β0', hr0⟩ := hw N w0 im β a w hr
    refine wp_loop_ghost (fun n a w => ∃ s im β, I n s ∧ Rel N w0 im β s a w) n0 ⟨s0, im0, β0', hI, hr0⟩ ?_
    rintro n a1 w1 ⟨s, im1, β1, hI1, hr1⟩
    refine awp_ok hΓ hB hD c _ s hN (hround n s hI1) im1 β1 a1 w1 _ hr1 ?_
    intro e st' im' β' a' w' hq hr'
    cases e with
    | normal =>
      obtain ⟨s1, n', hw1, hlt, hI'⟩ := hq
      obtain ⟨im2, β2, hr2⟩ := hw1 N w0 im' β' a' w' hr'
      exact ⟨n', hlt, s1, im2, β2, hI', hr2⟩
    | exit id => exact hR _ _ _ _ _ _ hq hr'
    | goto l => exact hR _ _ _ _ _ _ hq hr'
    | ret => exact hR _ _ _ _ _ _ hq hr'
    | panic ch => exact hR _ _ _ _ _ _ hq hr'
    | outgrown => exact hR _ _ _ _ _ _ hq hr'
  | .rangeFunc .., _, _, _, h => by simp [cCode, awp] at h
  | .scope _, _, _, _, h => by simp [cCode, awp] at h
  | .goto _, _, _, _, h => by simp [cCode, awp] at h
  | .refuse _, _, _, _, h => by simp [cCode, awp] at h
end
end Go.Ab
