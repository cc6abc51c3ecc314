/- The condition of a body, with what it touches: one law for each kind of operation; the laws are in the set go_sem. -/
import Derived.Test.YtniioedflegdkaaAb25
set_option linter.all false
namespace Go.Ab
open Go

abbrev Tr := Option (List (List Nat))
def locsK (k : K) (vals : List V) (d : Nat) : List Nat := (if touches k then vals.flatMap locV else []) ++ (if usesD k then [d] else [])
/-- What an operation touches, behind what was touched. -/
def addT (t : Tr) (gt : Bool) (x : List Nat) : Tr := match t with
  | none => none
  | some l => some (l ++ [if gt = true then x else []])
def tOk (t : Tr) (ps : List (Nat × Nat)) : Prop := match t with
  | none => True
  | some l => pairsOk l ps = true
def exT (Γ : FuncId → Spec) (ops : List Op1) (st : AS) (t : Tr) (K : AS → Tr → Prop) : Prop := ∃ st', steps Γ ops st = some st' ∧ K st' (t.map (· ++ trace Γ ops st))

section
variable {Γ : FuncId → Spec} {Q : Exit → AS → Prop} {st : AS} {t : Tr} {K : AS → Tr → Prop} {env : Nat → V} {mem : Nat → Option Obj} {dst : Option Nat} {args : List O} {g : Option (Nat × Bool)} {r : List Op1}
theorem vt_reg {ops : List Op1} : awp Γ (.reg ops) Q st = exT Γ ops st none (fun s _ => Q .normal s) := nr rfl
theorem vt_regD {ops : List Op1} {ps : List (Nat × Nat)} : awp Γ (.regD ops ps) Q st = exT Γ ops st (some []) (fun s t => Q .normal s ∧ tOk t ps) := by
  simp only [awp, exT, Option.map_some, List.nil_append, tOk]
  apply propext
  constructor
  · rintro ⟨⟨s, h1, h2⟩, h3⟩; exact ⟨s, h1, h2, h3⟩
  · rintro ⟨s, h1, h2, h3⟩; exact ⟨⟨s, h1, h2⟩, h3⟩
theorem vt_regD_nil {ops : List Op1} : awp Γ (.regD ops []) Q st = exT Γ ops st none (fun s _ => Q .normal s) := by
  rw [vt_regD]
  simp only [exT, Option.map_some, Option.map_none, tOk, pairsOk, List.all_nil, and_true]
theorem exT_nil : exT Γ [] st t K = K st t := by
  simp only [exT, steps, trace, Option.some.injEq]
  apply propext
  constructor
  · rintro ⟨s, rfl, h⟩; cases t <;> simpa using h
  · intro h; exact ⟨st, rfl, by cases t <;> simpa using h⟩
theorem exT_cons {o : Op1} (hg : want st.env o.guard = none ∨ want st.env o.guard = some (gate st.env o.guard)) :
    exT Γ (o :: r) st t K = exN (steps Γ [o] st) fun s => exT Γ r s (addT t (gate st.env o.guard) (locsK o.kind (o.args.map (ev st.env)) (o.dst.getD 0))) K := by
  have hs : ∀ X : AS → Prop, exN (steps Γ [o] st) X = ∃ s, step1 Γ o st = some s ∧ X s := fun X => by
    simp only [exN, steps]
    cases step1 Γ o st <;> simp
  rw [hs]
  apply propext
  simp only [exT, steps, trace]
  cases h1 : step1 Γ o st with
  | none => simp
  | some s1 =>
    simp only [Option.some.injEq, exists_eq_left']
    have ht : (t.map (· ++ ((if want st.env o.guard = some true then opLocs o st else []) :: trace Γ r s1))) = (addT t (gate st.env o.guard) (locsK o.kind (o.args.map (ev st.env)) (o.dst.getD 0))).map (· ++ trace Γ r s1) := by
      cases t with
      | none => rfl
      | some l =>
        simp only [Option.map_some, addT, List.append_assoc, List.singleton_append, opLocs, locsK]
        rcases hg with hg | hg
        · simp [step1, hg] at h1
        · rw [hg]
          cases gate st.env o.guard <;> simp
    rw [ht]

theorem want_gate (env : Nat → V) (g : Option (Nat × Bool)) : want env g = none ∨ want env g = some (gate env g) := by
  cases g with
  | none => exact .inr rfl
  | some sb =>
    obtain ⟨s, b⟩ := sb
    simp only [want, gate]
    cases env s with
    | c x => cases x with
      | s x => cases x <;> simp [gOn]
      | _ => simp
    | undef => simp [gOn]
    | _ => simp

/-- An operation without a trace: its condition, its value (which may lean on the condition), the rest. -/
def pureE (gt : Bool) (ok : Prop) (v : V) (K : V → Prop) : Prop := (gt = true → ok) ∧ bindV (ifV gt v) K
theorem pureE_eq {gt : Bool} {ok : Prop} {v : V} {K : V → Prop} : pureE gt ok v K = ((gt = true → ok) ∧ bindV (ifV gt v) K) := nr rfl
theorem pureE_congr {gt gt' : Bool} {ok ok' G : Prop} {v v' : V} {K : V → Prop} (h1 : gt = gt') (h0 : (gt' = true) = G) (h2 : G → ok = ok') (h3 : G → ok' → v = v') : pureE gt ok v K = pureE gt' ok' v' K := by
  subst h1; subst h0
  cases gt with
  | false => simp [pureE, ifV]
  | true =>
    have e := h2 rfl
    subst e
    simp only [pureE, ifV, bindV, if_true, forall_const]
    by_cases h : ok
    · rw [h3 rfl h]
    · simp [h]
attribute [congr] pureE_congr
theorem exT_pure {k : Ab.K} (hk : pureK k = true) : exT Γ (⟨dst, k, args, g⟩ :: r) ⟨env, mem⟩ t K =
    (gateWf env g ∧ pureE (gate env g) (okO (run (fun _ _ => none) 0 mem k (args.map (ev env)))) (runV mem k (args.map (ev env))) fun v =>
      exT Γ r ⟨putD env dst v, mem⟩ (addT t (gate env g) (locsK k (args.map (ev env)) (dst.getD 0))) K) := by
  rw [exT_cons (want_gate _ _), steps_pure hk]
  simp only [steps_nil, pureE, bindV]
/-- A call that hands back data, out of sealed arguments. -/
def callE (G : List V → Option V) (vals : List V) (gt : Bool) (K : V → Prop) : Prop := (gt = true → (G vals).isSome = true) ∧ bindV (ifV gt ((G vals).getD .junk)) K
theorem callE_congr {G : List V → Option V} {vals vals' : List V} {gt gt' : Bool} {H : Prop} {K : V → Prop} (h1 : gt = gt') (h0 : (gt' = true) = H) (h2 : H → vals = vals') : callE G vals gt K = callE G vals' gt' K := by
  subst h1; subst h0
  cases gt with
  | false => simp [callE, ifV]
  | true => rw [h2 rfl]
attribute [congr] callE_congr
theorem callE_of {G : List V → Option V} {vals : List V} {c : Prop} [Decidable c] {v : V} {gt : Bool} {K : V → Prop} (h : G vals = if c then some v else none) : callE G vals gt K = ((gt = true → c) ∧ bindV (ifV gt v) K) := by
  unfold callE
  rw [h]
  cases gt with
  | false => simp [ifV]
  | true => by_cases hc : c <;> simp [hc, ifV]
theorem callE_all {G : List V → Option V} {vals : List V} {v : V} {gt : Bool} {K : V → Prop} (h : G vals = some v) : callE G vals gt K = bindV (ifV gt v) K := by
  unfold callE
  rw [h]
  simp
theorem exT_call {f : FuncId} {G : List V → Option V} (hΓ : Γ f = plain G) (hl : gate env g = true → argVs mem (args.map (ev env)) = some (args.map (ev env))) :
    exT Γ (⟨dst, .call f, args, g⟩ :: r) ⟨env, mem⟩ t K = (gateWf env g ∧ callE G (args.map (ev env)) (gate env g) fun v =>
      exT Γ r ⟨putD env dst v, mem⟩ (addT t (gate env g) (locsK (.call f) (args.map (ev env)) (dst.getD 0))) K) := by
  rw [exT_cons (want_gate _ _), steps_callp hΓ hl]
  simp only [steps_nil, callE, bindV]

/-- Behind a call that may hand back what it was given: rows of the frame's own among its arguments are sealed. -/
def sealW (m : Nat → Option Obj) (locs : List Nat) (v : V) : Nat → Option Obj := if locs.isEmpty || v.refless then m else setAll m (sealL m locs)
/-- A call that hands back data; a row of the frame's own is among its arguments. -/
def callO (G : List V → Option V) (vs : Option (List V)) (m : Nat → Option Obj) (locs : List Nat) (K : V → (Nat → Option Obj) → Prop) : Prop := match vs with
  | some vs => match G vs with
    | some v => K v (sealW m locs v)
    | none => False
  | none => False
theorem callO_congr {G : List V → Option V} {vs vs' : Option (List V)} {m : Nat → Option Obj} {locs locs' : List Nat} {K : V → (Nat → Option Obj) → Prop} (h1 : vs = vs') (h2 : locs = locs') : callO G vs m locs K = callO G vs' m locs' K := by rw [h1, h2]
attribute [congr] callO_congr
theorem callO_of {G : List V → Option V} {vals : List V} {c : Prop} [Decidable c] {v : V} {m : Nat → Option Obj} {locs : List Nat} {K : V → (Nat → Option Obj) → Prop} (h : G vals = if c then some v else none) :
    callO G (some vals) m locs K = (c ∧ K v (sealW m locs v)) := by
  unfold callO
  simp only [h]
  by_cases hc : c <;> simp [hc]
theorem callO_all {G : List V → Option V} {vals : List V} {v : V} {m : Nat → Option Obj} {locs : List Nat} {K : V → (Nat → Option Obj) → Prop} (h : G vals = some v) :
    callO G (some vals) m locs K = K v (sealW m locs v) := by
  unfold callO
  simp only [h]
theorem exT_callo {f : FuncId} {G : List V → Option V} (hΓ : Γ f = plain G) :
    exT Γ (⟨dst, .call f, args, none⟩ :: r) ⟨env, mem⟩ t K = callO G (argVs mem (args.map (ev env))) mem ((args.map (ev env)).flatMap locV) fun v m' =>
      exT Γ r ⟨putD env dst v, m'⟩ (addT t true (locsK (.call f) (args.map (ev env)) (dst.getD 0))) K := by
  rw [exT_cons (want_gate _ _), steps_cons]
  simp only [gateV, steps_nil, gate, run, callR, callO, hΓ, plain]
  cases argVs mem (args.map (ev env)) with
  | none => rfl
  | some vs =>
    simp only
    cases G vs with
    | none => rfl
    | some v =>
      simp only [Option.map_some, resV, sealW]
      by_cases h1 : ((List.flatMap locV (args.map (ev env))).isEmpty || (Res.v v).refless) = true
      · rw [if_pos h1]
        rw [if_pos (show ((List.flatMap locV (args.map (ev env))).isEmpty || v.refless) = true from h1)]; rfl
      · rw [if_neg h1, List.append_nil]
        rw [if_neg (show ¬ ((List.flatMap locV (args.map (ev env))).isEmpty || v.refless) = true from h1)]; rfl

/-- A specification that hands back a slice whose row nobody else has. -/
def fresh (G : List V → Option (Nat × List (List S))) : Spec := fun vs => (G vs).map fun p => .fresh p.1 p.2
def callF (G : List V → Option (Nat × List (List S))) (vs : Option (List V)) (m : Nat → Option Obj) (locs : List Nat) (d : Nat) (K : V → (Nat → Option Obj) → Prop) : Prop := match vs with
  | some vs => match G vs with
    | some p => m d = none ∧ K (.c (.own d p.2.length)) (upd (setAll m (sealL m locs)) d (some (.row p.1 p.2)))
    | none => False
  | none => False
theorem callF_congr {G : List V → Option (Nat × List (List S))} {vs vs' : Option (List V)} {m : Nat → Option Obj} {locs locs' : List Nat} {d : Nat} {K : V → (Nat → Option Obj) → Prop} (h1 : vs = vs') (h2 : locs = locs') : callF G vs m locs d K = callF G vs' m locs' d K := by rw [h1, h2]
attribute [congr] callF_congr
theorem callF_of {G : List V → Option (Nat × List (List S))} {vals : List V} {c : Prop} [Decidable c] {k : Nat} {rows : List (List S)} {m : Nat → Option Obj} {locs : List Nat} {d : Nat} {K : V → (Nat → Option Obj) → Prop} (h : G vals = if c then some (k, rows) else none) :
    callF G (some vals) m locs d K = (c ∧ m d = none ∧ K (.c (.own d rows.length)) (upd (setAll m (sealL m locs)) d (some (.row k rows)))) := by
  unfold callF
  simp only [h]
  by_cases hc : c <;> simp [hc]
theorem exT_callf {f : FuncId} {G : List V → Option (Nat × List (List S))} (hΓ : Γ f = fresh G) :
    exT Γ (⟨dst, .call f, args, none⟩ :: r) ⟨env, mem⟩ t K = callF G (argVs mem (args.map (ev env))) mem ((args.map (ev env)).flatMap locV) (dst.getD 0) fun v m' =>
      exT Γ r ⟨putD env dst v, m'⟩ (addT t true (locsK (.call f) (args.map (ev env)) (dst.getD 0))) K := by
  rw [exT_cons (want_gate _ _), steps_cons]
  simp only [gateV, steps_nil, gate, run, callR, callF, hΓ, fresh]
  cases argVs mem (args.map (ev env)) with
  | none => rfl
  | some vs =>
    simp only
    cases G vs with
    | none => rfl
    | some p =>
      simp only [Option.map_some, resV, Res.refless, Bool.or_false]
      cases hd : mem (dst.getD 0) with
      | some o => simp [exO]
      | none =>
        cases hl : (List.flatMap locV (args.map (ev env))) with
        | nil => simp [exO, setAll, sealL]
        | cons a b => simp [exO, setAll_append, setAll]

/-- A call of a value. -/
def callVE (Γ : FuncId → Spec) (m : Nat → Option Obj) (vals : List V) (gt : Bool) (K : V → Prop) : Prop := match vals with
  | .c (.s (.fn f caps)) :: vals => ∃ G, Γ f = plain G ∧ argVs m (vals ++ caps.map fun x => .c (.s x)) = some (vals ++ caps.map fun x => .c (.s x)) ∧ callE G (vals ++ caps.map fun x => .c (.s x)) gt K
  | _ => False

/-- Operations that leave a trace in memory. -/
def memK : Ab.K → Bool
  | .alloc _ | .allocB _ | .box _ | .store .. | .bslice .. | .append .. | .mkfn _ | .callv | .bldByte .. | .bldStr .. | .bldGet .. => true
  | _ => false
theorem exT_mem {k : Ab.K} (_hk : memK k = true) : exT Γ (⟨dst, k, args, none⟩ :: r) ⟨env, mem⟩ t K =
    exO (run Γ (dst.getD 0) mem k (args.map (ev env))) fun v ups => exT Γ r ⟨putD env dst v, setAll mem ups⟩ (addT t true (locsK k (args.map (ev env)) (dst.getD 0))) K := by
  rw [exT_cons (want_gate _ _), steps_cons]
  simp only [gateV, steps_nil, gate]
end

section
variable {Γ : FuncId → Spec} {d : Nat} {m : Nat → Option Obj} {F : V → List (Nat × Obj) → Prop}
theorem exO_alloc {z : List S} : exO (run Γ d m (.alloc z) []) F = (m d = none ∧ F (.c (.ptr d 0)) [(d, .box (z.map .s))]) := by
  simp only [run, runAlloc]; cases m d <;> simp [exO]
theorem exO_allocB {T : TypeId × TypeId} : exO (run Γ d m (.allocB T) []) F = (m d = none ∧ F (.c (.ptr d 0)) [(d, .bld T [])]) := by
  simp only [run, runAllocB]; cases m d <;> simp [exO]
theorem exO_boxC {x : C} : exO (run Γ d m (.box 1) [.c x]) F = (m d = none ∧ F (.c (.ptr d 0)) [(d, .box [x])]) := by
  simp only [run, runBox, cellsV]; cases m d <;> simp [exO]
theorem exO_boxA {n : Nat} {xs : List C} : exO (run Γ d m (.box n) [.agg xs]) F = (m d = none ∧ xs.length = n ∧ F (.c (.ptr d 0)) [(d, .box xs)]) := by
  simp only [run, runBox, cellsV]; cases m d <;> by_cases h : xs.length = n <;> simp [exO, h]
def storeO (o : Option Obj) (n l i : Nat) (ys : Option (List C)) (F : V → List (Nat × Obj) → Prop) : Prop := match o, ys with
  | some (.box cells), some ys => ys.length = n ∧ i + n ≤ cells.length ∧ F .undef [(l, .box (splice cells i ys))]
  | _, _ => False
theorem storeO_congr {o o' : Option Obj} {n l i : Nat} {ys ys' : Option (List C)} {F : V → List (Nat × Obj) → Prop} (h : o = o') (h2 : ys = ys') : storeO o n l i ys F = storeO o' n l i ys' F := by rw [h, h2]
attribute [congr] storeO_congr
theorem storeO_box {cells ys : List C} {n l i : Nat} : storeO (some (.box cells)) n l i (some ys) F = (ys.length = n ∧ i + n ≤ cells.length ∧ F .undef [(l, .box (splice cells i ys))]) := nr rfl
theorem exO_store {n l i : Nat} {agg : Bool} {v : V} : exO (run Γ d m (.store n agg) [.c (.ptr l i), v]) F = storeO (m l) n l i (cellsV v) F := by
  simp only [run, runStore, storeO]
  cases m l with
  | none => rfl
  | some o =>
    cases o with
    | box cells =>
      cases cellsV v with
      | none => rfl
      | some ys => by_cases h : ys.length = n ∧ i + n ≤ cells.length <;> simp [exO, h]; simp only [not_and, Nat.not_le] at h; intro h1 h2; have := h h1; omega
    | _ => rfl
def storeR (o : Option Obj) (n l len i off : Nat) (ys : Option (List S)) (F : V → List (Nat × Obj) → Prop) : Prop := match o, ys with
  | some (.row k rows), some zs => (zs.length = n ∧ len = rows.length ∧ i < rows.length ∧ off + n ≤ k) ∧ F .undef [(l, .row k (rows.set i (splice (rows.getD i []) off zs)))]
  | _, _ => False
theorem storeR_congr {o o' : Option Obj} {n l len i off : Nat} {ys ys' : Option (List S)} {F : V → List (Nat × Obj) → Prop} (h : o = o') (h2 : ys = ys') : storeR o n l len i off ys F = storeR o' n l len i off ys' F := by rw [h, h2]
attribute [congr] storeR_congr
theorem storeR_row {k : Nat} {rows : List (List S)} {zs : List S} {n l len i off : Nat} : storeR (some (.row k rows)) n l len i off (some zs) F = ((zs.length = n ∧ len = rows.length ∧ i < rows.length ∧ off + n ≤ k) ∧ F .undef [(l, .row k (rows.set i (splice (rows.getD i []) off zs)))]) := nr rfl
theorem exO_storeR {n l len i off : Nat} {agg : Bool} {v : V} : exO (run Γ d m (.store n agg) [.c (.optr l len i off), v]) F = storeR (m l) n l len i off ((cellsV v).bind asS) F := by
  simp only [run, runStore, storeR]
  cases m l with
  | none => rfl
  | some o =>
    cases o with
    | row k rows =>
      cases cellsV v with
      | none => rfl
      | some ys =>
        simp only [Option.bind_some]
        cases asS ys with
        | none => rfl
        | some zs => by_cases h : zs.length = n ∧ len = rows.length ∧ i < rows.length ∧ off + n ≤ k <;> simp [exO, h]
    | _ => rfl
/-- An append to a nil slice, to a row of the frame's own. -/
def appO (o : Option Obj) (ys : Option (List (List S))) (k bytes n l : Nat) (F : V → List (Nat × Obj) → Prop) : Prop := match o, ys with
  | some (.row k' rows), some ys => k' = k ∧ n = rows.length ∧ (rows.length + ys.length) * bytes ≤ 140737488355328 ∧ F (.c (.own l (rows ++ ys).length)) [(l, .row k (rows ++ ys))]
  | _, _ => False
def appN (o : Option Obj) (ys : Option (List (List S))) (k bytes d : Nat) (F : V → List (Nat × Obj) → Prop) : Prop := match o, ys with
  | none, some ys => ys.length * bytes ≤ 140737488355328 ∧ F (.c (.own d ys.length)) [(d, .row k ys)]
  | _, _ => False
theorem appO_congr {o o' : Option Obj} {ys ys' : Option (List (List S))} {k bytes n l : Nat} {F : V → List (Nat × Obj) → Prop} (h : o = o') (h2 : ys = ys') : appO o ys k bytes n l F = appO o' ys' k bytes n l F := by rw [h, h2]
theorem appN_congr {o o' : Option Obj} {ys ys' : Option (List (List S))} {k bytes l : Nat} {F : V → List (Nat × Obj) → Prop} (h : o = o') (h2 : ys = ys') : appN o ys k bytes l F = appN o' ys' k bytes l F := by rw [h, h2]
attribute [congr] appO_congr appN_congr
theorem appO_row {k' k bytes n l : Nat} {rows ys : List (List S)} : appO (some (.row k' rows)) (some ys) k bytes n l F = (k' = k ∧ n = rows.length ∧ (rows.length + ys.length) * bytes ≤ 140737488355328 ∧ F (.c (.own l (rows ++ ys).length)) [(l, .row k (rows ++ ys))]) := nr rfl
theorem appN_none {k bytes l : Nat} {ys : List (List S)} : appN none (some ys) k bytes l F = (ys.length * bytes ≤ 140737488355328 ∧ F (.c (.own l ys.length)) [(l, .row k ys)]) := nr rfl
theorem exO_appO {str : Bool} {k bytes n l : Nat} {y : V} : exO (run Γ d m (.append str k bytes) [.c (.own l n), y]) F = appO (m l) (rowsOf str m k y) k bytes n l F := by
  simp only [run, runAppend, appO]
  cases m l with
  | none => rfl
  | some o =>
    cases o with
    | row k' rows =>
      cases rowsOf str m k y with
      | none => rfl
      | some ys => by_cases h : k' = k ∧ n = rows.length ∧ (rows.length + ys.length) * bytes ≤ 140737488355328 <;> simp [exO, h]; intro h1 h2 h3; exact absurd ⟨h1, h2, h3⟩ h
    | _ => rfl
theorem exO_appN {str : Bool} {k' k bytes : Nat} {y : V} : exO (run Γ d m (.append str k bytes) [.c (.s (.list k' [] true)), y]) F = appN (m d) (rowsOf str m k y) k bytes d F := by
  simp only [run, runAppend, appN]
  cases m d with
  | some o => rfl
  | none =>
    cases rowsOf str m k y with
    | none => rfl
    | some ys => by_cases h : ys.length * bytes ≤ 140737488355328 <;> simp [exO, h]
def rowsO (o : Option Obj) (n k : Nat) : Option (List (List S)) := match rowOf o with
  | some (k', rows) => if k' = k ∧ n = rows.length then some rows else none
  | none => none
theorem rowsOf_list {k' k : Nat} {rows : List (List S)} {f : Bool} : rowsOf false m k (.c (.s (.list k' rows f))) = if k' = k ∨ rows = [] then some rows else none := nr rfl
theorem rowsOf_own {l n k : Nat} : rowsOf false m k (.c (.own l n)) = rowsO (m l) n k := by
  simp only [rowsOf, rowsO, ownRows, Bool.false_eq_true, if_false]
  cases m l with
  | none => rfl
  | some o => cases o <;> simp only [rowOf] <;> (split <;> simp_all) <;> rfl
theorem rowsO_row {k' k n : Nat} {rows : List (List S)} : rowsO (some (.row k' rows)) n k = if k' = k ∧ n = rows.length then some rows else none := nr rfl
theorem rowsO_srow {k' k n : Nat} {rows : List (List S)} : rowsO (some (.srow k' rows)) n k = if k' = k ∧ n = rows.length then some rows else none := nr rfl
theorem rowsOf_str {s : List UInt8} : rowsOf true m 1 (.c (.s (.str s))) = some (byteRows s) := nr rfl
/-- A literal slice. -/
def bslO (o : Option Obj) (ys : Option (List S)) (k len d : Nat) (F : V → List (Nat × Obj) → Prop) : Prop := match o, ys with
  | none, some ys => F (.c (.own d len)) [(d, .row k (chunks k len ys))]
  | _, _ => False
theorem bslO_congr {o o' : Option Obj} {ys ys' : Option (List S)} {k len d : Nat} {F : V → List (Nat × Obj) → Prop} (h : o = o') (h2 : ys = ys') : bslO o ys k len d F = bslO o' ys' k len d F := by rw [h, h2]
attribute [congr] bslO_congr
theorem bslO_none {ys : List S} {k len : Nat} : bslO none (some ys) k len d F = F (.c (.own d len)) [(d, .row k (chunks k len ys))] := nr rfl
theorem exO_bsl {k len : Nat} {z : List S} {at_ : List Nat} {vals : List V} (h : (len == 0) = false) : exO (run Γ d m (.bslice k len z at_) vals) F = bslO (m d) ((layParts ((List.replicate len (z.map C.s)).flatten) (at_.map fun i => (i * k, k)) vals).bind asS) k len d F := by
  have h' : len ≠ 0 := by simpa using h
  simp only [run, runBslice, bslO]
  cases layParts ((List.replicate len (z.map C.s)).flatten) (at_.map fun i => (i * k, k)) vals with
  | none => cases m d <;> rfl
  | some xs =>
    simp only [Option.bind_some]
    cases asS xs with
    | none => cases m d <;> rfl
    | some ys => cases hm : m d <;> simp [exO, h']
theorem exO_bsl0 {k : Nat} {z : List S} : exO (run Γ d m (.bslice k 0 z []) []) F = F (.c (.s (.list k [] true))) [] := by
  simp [run, runBslice, layParts, asS, exO]
/-- The parts of a literal. -/
def layO (cells : List C) (off n : Nat) (ys : Option (List C)) (r : List (Nat × Nat)) (vs : List V) : Option (List C) := match ys with
  | some ys => if ys.length = n ∧ off + n ≤ cells.length then layParts (splice cells off ys) r vs else none
  | none => none
theorem lay_nil {cells : List C} : layParts cells [] [] = some cells := nr rfl
theorem lay_cons {cells : List C} {off n : Nat} {r : List (Nat × Nat)} {v : V} {vs : List V} : layParts cells ((off, n) :: r) (v :: vs) = layO cells off n (cellsV v) r vs := nr rfl
theorem layO_some {cells ys : List C} {off n : Nat} {r : List (Nat × Nat)} {vs : List V} (h : ys.length = n ∧ off + n ≤ cells.length) : layO cells off n (some ys) r vs = layParts (splice cells off ys) r vs := by simp [layO, h]
theorem cellsV_c {x : C} : cellsV (.c x) = some [x] := nr rfl
theorem cellsV_agg {xs : List C} : cellsV (.agg xs) = some xs := nr rfl
theorem asS_nil : asS [] = some [] := nr rfl
theorem asS_cons {x : S} {r : List C} : asS (.s x :: r) = (asS r).map (x :: ·) := nr rfl
/-- Builders. -/
def bldO (T : TypeId × TypeId) (o : Option Obj) (t : List UInt8) (l : Nat) (v : V) (F : V → List (Nat × Obj) → Prop) : Prop := match bldOf T o with
  | some s => s.length + t.length < 35184372088832 ∧ F v [(l, .bld T (s ++ t))]
  | none => False
theorem bldO_congr {T : TypeId × TypeId} {o o' : Option Obj} {t t' : List UInt8} {l : Nat} {v : V} {F : V → List (Nat × Obj) → Prop} (h : o = o') (h2 : t = t') : bldO T o t l v F = bldO T o' t' l v F := by rw [h, h2]
attribute [congr] bldO_congr
theorem bldO_bld {T : TypeId × TypeId} {s t : List UInt8} {l : Nat} {v : V} : bldO T (some (.bld T s)) t l v F = (s.length + t.length < 35184372088832 ∧ F v [(l, .bld T (s ++ t))]) := by simp [bldO, bldOf]
theorem exO_bldStr {f : FuncId} {T : TypeId × TypeId} {l : Nat} {t : List UInt8} : exO (run Γ d m (.bldStr f T) [.c (.ptr l 0), .c (.s (.str t))]) F = bldO T (m l) t l (.tup [.inl (.s (.int .i64 t.length)), .inl (.s (.raw .nilIface))]) F := by
  simp only [run, runBldStr, bldO]
  cases bldOf T (m l) with
  | none => rfl
  | some s => by_cases h : s.length + t.length < 35184372088832 <;> simp [exO, h]
def bldB (T : TypeId × TypeId) (o : Option Obj) (c : Int) (l : Nat) (F : V → List (Nat × Obj) → Prop) : Prop := match bldOf T o with
  | some s => (0 ≤ c ∧ c < 256) ∧ s.length < 35184372088832 ∧ F (.c (.s (.raw .nilIface))) [(l, .bld T (s ++ [UInt8.ofNat c.toNat]))]
  | none => False
theorem bldB_congr {T : TypeId × TypeId} {o o' : Option Obj} {c c' : Int} {l : Nat} {F : V → List (Nat × Obj) → Prop} (h : o = o') (h2 : c = c') : bldB T o c l F = bldB T o' c' l F := by rw [h, h2]
attribute [congr] bldB_congr
theorem bldB_bld {T : TypeId × TypeId} {s : List UInt8} {c : Int} {l : Nat} : bldB T (some (.bld T s)) c l F = ((0 ≤ c ∧ c < 256) ∧ s.length < 35184372088832 ∧ F (.c (.s (.raw .nilIface))) [(l, .bld T (s ++ [UInt8.ofNat c.toNat]))]) := by simp [bldB, bldOf]
theorem exO_bldByte {f : FuncId} {T : TypeId × TypeId} {l : Nat} {c : Int} : exO (run Γ d m (.bldByte f T) [.c (.ptr l 0), .c (.s (.int .u8 c))]) F = bldB T (m l) c l F := by
  simp only [run, runBldByte, bldB]
  cases bldOf T (m l) with
  | none => rfl
  | some s => by_cases h : 0 ≤ c ∧ c < 256 ∧ s.length < 35184372088832 <;> simp [exO, h] <;> omega
def bldG (T : TypeId × TypeId) (o : Option Obj) (l : Nat) (F : V → List (Nat × Obj) → Prop) : Prop := match bldOf T o with
  | some s => s.length < 35184372088832 ∧ F (.c (.s (.str s))) [(l, .bld T s)]
  | none => False
theorem bldG_congr {T : TypeId × TypeId} {o o' : Option Obj} {l : Nat} {F : V → List (Nat × Obj) → Prop} (h : o = o') : bldG T o l F = bldG T o' l F := by rw [h]
attribute [congr] bldG_congr
theorem bldG_bld {T : TypeId × TypeId} {s : List UInt8} {l : Nat} : bldG T (some (.bld T s)) l F = (s.length < 35184372088832 ∧ F (.c (.s (.str s))) [(l, .bld T s)]) := by simp [bldG, bldOf]
theorem exO_bldGet {f : FuncId} {T : TypeId × TypeId} {l : Nat} : exO (run Γ d m (.bldGet f T) [.c (.ptr l 0)]) F = bldG T (m l) l F := by
  simp only [run, runBldGet, bldG]
  cases bldOf T (m l) with
  | none => rfl
  | some s => by_cases h : s.length < 35184372088832 <;> simp [exO, h]
/-- A closure; a call of one. -/
def mkO (o : Option (List S × List (Nat × Obj))) (f : FuncId) (F : V → List (Nat × Obj) → Prop) : Prop := match o with
  | some p => F (.c (.s (.fn f p.1))) p.2
  | none => False
theorem mkO_congr {o o' : Option (List S × List (Nat × Obj))} {f : FuncId} {F : V → List (Nat × Obj) → Prop} (h : o = o') : mkO o f F = mkO o' f F := by rw [h]
attribute [congr] mkO_congr
theorem mkO_some {p : List S × List (Nat × Obj)} {f : FuncId} : mkO (some p) f F = F (.c (.s (.fn f p.1))) p.2 := nr rfl
theorem exO_mkfn {f : FuncId} {vals : List V} : exO (run Γ d m (.mkfn f) vals) F = mkO (capVs m vals) f F := by
  simp only [run, runMkfn, mkO]
  cases capVs m vals <;> rfl
theorem cap_nil : capVs m [] = some ([], []) := by simp [capVs]
theorem cap_s {x : S} {r : List V} : capVs m (.c (.s x) :: r) = (capVs m r).map fun p => (x :: p.1, p.2) := by
  simp only [capVs]; cases capVs m r <;> rfl
theorem cap_box {l : Nat} {cells : List C} {ss : List S} {r : List V} (h : m l = some (.box cells)) (hs : asS cells = some ss) : capVs m (.c (.ptr l 0) :: r) = (capVs (upd m l (some (.sbox ss))) r).map fun p => (.cref ss :: p.1, (l, .sbox ss) :: p.2) := by
  simp only [capVs, h, hs]; cases capVs (upd m l (some (.sbox ss))) r <;> rfl
theorem exO_callv {f : FuncId} {G : List V → Option V} {caps : List S} {vals : List V} (hΓ : Γ f = plain G) (hl : argVs m (vals ++ caps.map fun x => .c (.s x)) = some (vals ++ caps.map fun x => .c (.s x))) :
    exO (run Γ d m .callv (.c (.s (.fn f caps)) :: vals)) F = callE G (vals ++ caps.map fun x => .c (.s x)) true fun v => F v [] := by
  have hlo := locs_of_args hl
  simp only [run, runCallv, callR, hl, hΓ, plain, callE, bindV, ifV, if_true, forall_const]
  cases G (vals ++ caps.map fun x => .c (.s x)) with
  | none => simp [exO]
  | some x => simp [resV, hlo, exO]
end
end Go.Ab
