/- The condition of a body, reckoned by rewriting. -/
import Derived.Test.YtniioedflegdkaaAb15
set_option linter.all false
namespace Go.Ab
open Go

/-- (So that the simplifier does not take the law for one that holds by unfolding.) -/
theorem nr {α : Sort _} {a b : α} (h : a = b) : a = b := h
def exN (o : Option AS) (K : AS → Prop) : Prop := ∃ s, o = some s ∧ K s
def exO (o : Out) (K : V → List (Nat × Obj) → Prop) : Prop := match o with
  | some p => K p.1 p.2
  | none => False
def gateV (g : Option (Nat × Bool)) (env : Nat → V) (A B : Prop) : Prop := match g with
  | none => A
  | some (s, b) => match env s with
    | .c (.s (.bool x)) => (x = b → A) ∧ (x = !b → B)
    | .undef => B
    | _ => False
/-- A gate on a value that is known to be a bool, or undefined. -/
def gateB (x : V) (b : Bool) (A B : Prop) : Prop := match x with
  | .c (.s (.bool x)) => (x = b → A) ∧ (x = !b → B)
  | .undef => B
  | _ => False
def gP (x b : Bool) (A B : Prop) : Prop := (x = b → A) ∧ (x = !b → B)
def condV : V → Prop → Prop → Prop
  | .c (.s (.bool b)), A, B => (b = true → A) ∧ (b = false → B)
  | .tf, A, B => A ∧ B
  | _, _, _ => False

section
variable {Γ : FuncId → Spec} {Q : Exit → AS → Prop} {st : AS} {K : AS → Prop}
theorem vc_skip : awp Γ .skip Q st = Q .normal st := nr rfl
theorem vc_exit {id : Nat} : awp Γ (.exit id) Q st = Q (.exit id) st := nr rfl
theorem vc_ret : awp Γ .ret Q st = Q .ret st := nr rfl
theorem vc_bad : awp Γ .bad Q st = False := nr rfl
theorem vc_seq {x y : SC} : awp Γ (.seq x y) Q st = awp Γ x (thenQ (awp Γ y Q) Q) st := nr rfl
theorem vc_block {id : Nat} {c : SC} : awp Γ (.block id c) Q st = awp Γ c (blockQ id Q) st := nr rfl
theorem vc_reg {ops : List Op1} : awp Γ (.reg ops) Q st = exN (steps Γ ops st) (Q .normal) := nr rfl
theorem vc_regD {ops : List Op1} {ps : List (Nat × Nat)} : awp Γ (.regD ops ps) Q st = (exN (steps Γ ops st) (Q .normal) ∧ pairsOk (trace Γ ops st) ps = true) := nr rfl
theorem vc_cond {c : O} {t e : SC} : awp Γ (.cond c t e) Q st = condV (ev st.env c) (awp Γ t Q st) (awp Γ e Q st) := by
  simp only [awp]
  cases ev st.env c with
  | c x => cases x with
    | s x => cases x <;> rfl
    | _ => rfl
  | _ => rfl
theorem thenQ_normal {s : AS} : thenQ K Q .normal s = K s := nr rfl
theorem thenQ_exit {s : AS} {i : Nat} : thenQ K Q (.exit i) s = Q (.exit i) s := nr rfl
theorem thenQ_ret {s : AS} : thenQ K Q .ret s = Q .ret s := nr rfl
theorem blockQ_normal {s : AS} {id : Nat} : blockQ id Q .normal s = Q .normal s := nr rfl
theorem blockQ_exit {s : AS} {id i : Nat} : blockQ id Q (.exit i) s = if i = id then Q .normal s else Q (.exit i) s := nr rfl
theorem blockQ_ret {s : AS} {id : Nat} : blockQ id Q .ret s = Q .ret s := nr rfl
theorem condV_bool {b : Bool} {A B : Prop} : condV (.c (.s (.bool b))) A B = gP b true A B := nr rfl
theorem exO_pick {d : Nat} {m : Nat → Option Obj} {t : Bool} {a b : V} {K : V → List (Nat × Obj) → Prop} : exO (run Γ d m .pick [.c (.s (.bool t)), a, b]) K = gP t true (K a []) (K b []) := by
  cases t <;> simp [gP, run, runPick, exO]
theorem condV_tf {A B : Prop} : condV .tf A B = (A ∧ B) := nr rfl
theorem gateV_none {env : Nat → V} {A B : Prop} : gateV none env A B = A := nr rfl
theorem gateV_some {s : Nat} {b : Bool} {env : Nat → V} {A B : Prop} : gateV (some (s, b)) env A B = gateB (env s) b A B := nr rfl
theorem gateB_bool {x b : Bool} {A B : Prop} : gateB (.c (.s (.bool x))) b A B = gP x b A B := nr rfl
theorem gP_tt {A B : Prop} : gP true true A B = A := by simp [gP]
theorem gP_tf {A B : Prop} : gP true false A B = B := by simp [gP]
theorem gP_ft {A B : Prop} : gP false true A B = B := by simp [gP]
theorem gP_ff {A B : Prop} : gP false false A B = A := by simp [gP]
theorem gP_dt {p : Prop} [Decidable p] {A B : Prop} : gP (decide p) true A B = ((p → A) ∧ (¬ p → B)) := by simp [gP]
theorem gP_df {p : Prop} [Decidable p] {A B : Prop} : gP (decide p) false A B = ((p → B) ∧ (¬ p → A)) := by simp [gP, and_comm]
theorem gP_not {x b : Bool} {A B : Prop} : gP (!x) b A B = gP x (!b) A B := by cases x <;> cases b <;> simp [gP]
theorem gP_congr {x x' b : Bool} {A B : Prop} (h : x = x') : gP x b A B = gP x' b A B := by rw [h]
theorem gateB_undef {b : Bool} {A B : Prop} : gateB .undef b A B = B := nr rfl
theorem exO_congr {a a' : Out} {K : V → List (Nat × Obj) → Prop} (h : a = a') : exO a K = exO a' K := by rw [h]
theorem gateB_congr {x x' : V} {b : Bool} {A B : Prop} (h : x = x') : gateB x b A B = gateB x' b A B := by rw [h]
theorem condV_congr {x x' : V} {A B : Prop} (h : x = x') : condV x A B = condV x' A B := by rw [h]
attribute [congr] exO_congr gateB_congr condV_congr gP_congr
theorem steps_nil : exN (steps Γ [] st) K = K st := by simp [exN, steps]
theorem steps_cons {o : Op1} {r : List Op1} : exN (steps Γ (o :: r) st) K =
    gateV o.guard st.env (exO (run Γ (o.dst.getD 0) st.mem o.kind (o.args.map (ev st.env))) fun v ups => exN (steps Γ r ⟨putD st.env o.dst v, setAll st.mem ups⟩) K) (exN (steps Γ r ⟨putD st.env o.dst .undef, st.mem⟩) K) := by
  have key : exN (steps Γ (o :: r) st) K = exN (step1 Γ o st) (fun s => exN (steps Γ r s) K) := by
    simp only [exN, steps]
    cases step1 Γ o st <;> simp
  rw [key]
  unfold step1 gateV exO
  cases hg : o.guard with
  | none =>
    simp only [want]
    cases run Γ (o.dst.getD 0) st.mem o.kind (o.args.map (ev st.env)) with
    | none => simp [exN]
    | some p => simp [exN]
  | some sb =>
    obtain ⟨s, b⟩ := sb
    simp only [want]
    cases st.env s with
    | c x =>
      cases x with
      | s x =>
        cases x with
        | bool x =>
          cases x <;> cases b <;> simp [exN] <;> cases run Γ (o.dst.getD 0) st.mem o.kind (o.args.map (ev st.env)) <;> simp
        | _ => simp [exN]
      | _ => simp [exN]
    | undef => simp [exN]
    | _ => simp [exN]
theorem exO_some {v : V} {ups : List (Nat × Obj)} {K : V → List (Nat × Obj) → Prop} : exO (some (v, ups)) K = K v ups := nr rfl
theorem exO_none {K : V → List (Nat × Obj) → Prop} : exO none K = False := nr rfl
theorem exO_ite {c : Prop} [Decidable c] {a b : V} {ua ub : List (Nat × Obj)} {K : V → List (Nat × Obj) → Prop} : exO (if c then some (a, ua) else some (b, ub)) K = ((c → K a ua) ∧ (¬ c → K b ub)) := by
  by_cases h : c <;> simp [h, exO]
theorem exO_guard {c : Prop} [Decidable c] {a : Out} {K : V → List (Nat × Obj) → Prop} : exO (if c then a else none) K = (c ∧ exO a K) := by
  by_cases h : c <;> simp [h, exO]
theorem exO_map {α : Type} {o : Option α} {f : α → V × List (Nat × Obj)} {K : V → List (Nat × Obj) → Prop} : exO (o.map f) K = ∃ x, o = some x ∧ K (f x).1 (f x).2 := by
  cases o <;> simp [exO]
theorem upd_same {α : Type} {f : Nat → α} {i : Nat} {x : α} : upd f i x i = x := by simp [upd]
theorem upd_lit {α : Type} {f : Nat → α} {i j : Nat} {x : α} : upd f i x j = if j = i then x else f j := nr rfl
theorem ev_t {env : Nat → V} {i : Nat} : ev env (.t i) = env i := nr rfl
theorem ev_k {env : Nat → V} {v : V} : ev env (.k v) = v := nr rfl
theorem putD_some {env : Nat → V} {i : Nat} {v : V} : putD env (some i) v = upd env i v := nr rfl
theorem putD_none {env : Nat → V} {v : V} : putD env none v = env := nr rfl
theorem setAll_nil {m : Nat → Option Obj} : setAll m [] = m := nr rfl
theorem setAll_cons {m : Nat → Option Obj} {l : Nat} {o : Obj} {r : List (Nat × Obj)} : setAll m ((l, o) :: r) = setAll (upd m l (some o)) r := nr rfl
theorem args_nil {env : Nat → V} : ([] : List O).map (ev env) = [] := nr rfl
theorem args_cons {env : Nat → V} {x : O} {r : List O} : (x :: r).map (ev env) = ev env x :: r.map (ev env) := nr rfl
theorem run_mv' {d : Nat} {m : Nat → Option Obj} {x : V} : run Γ d m .mv [x] = some (x, []) := nr rfl
theorem run_pick' {d : Nat} {m : Nat → Option Obj} {t : Bool} {a b : V} : run Γ d m .pick [.c (.s (.bool t)), a, b] = if t then some (a, []) else some (b, []) := nr rfl
theorem run_not' {d : Nat} {m : Nat → Option Obj} {t : Bool} : run Γ d m .not [.c (.s (.bool t))] = some (.c (.s (.bool (!t))), []) := nr rfl
theorem run_lss' {d : Nat} {m : Nat → Option Obj} {k : IntKind} {a b : Int} : run Γ d m (.bin .lss) [.c (.s (.int k a)), .c (.s (.int k b))] = some (.c (.s (.bool (decide (a < b)))), []) := by simp [run, runBin, binS, binI]
theorem run_leq' {d : Nat} {m : Nat → Option Obj} {k : IntKind} {a b : Int} : run Γ d m (.bin .leq) [.c (.s (.int k a)), .c (.s (.int k b))] = some (.c (.s (.bool (decide (a ≤ b)))), []) := by simp [run, runBin, binS, binI]
theorem run_gtr' {d : Nat} {m : Nat → Option Obj} {k : IntKind} {a b : Int} : run Γ d m (.bin .gtr) [.c (.s (.int k a)), .c (.s (.int k b))] = some (.c (.s (.bool (decide (b < a)))), []) := by simp [run, runBin, binS, binI]
theorem run_geq' {d : Nat} {m : Nat → Option Obj} {k : IntKind} {a b : Int} : run Γ d m (.bin .geq) [.c (.s (.int k a)), .c (.s (.int k b))] = some (.c (.s (.bool (decide (b ≤ a)))), []) := by simp [run, runBin, binS, binI]
theorem run_eql' {d : Nat} {m : Nat → Option Obj} {k : IntKind} {a b : Int} : run Γ d m (.bin .eql) [.c (.s (.int k a)), .c (.s (.int k b))] = some (.c (.s (.bool (decide (a = b)))), []) := by
  simp [run, runBin, binS, binI]
  by_cases h : a = b <;> simp [h]
theorem run_neq' {d : Nat} {m : Nat → Option Obj} {k : IntKind} {a b : Int} : run Γ d m (.bin .neq) [.c (.s (.int k a)), .c (.s (.int k b))] = some (.c (.s (.bool (decide (a ≠ b)))), []) := by
  simp [run, runBin, binS, binI, bne]
  by_cases h : a = b <;> simp [h]
theorem run_add' {d : Nat} {m : Nat → Option Obj} {k : IntKind} {a b : Int} : run Γ d m (.bin .add) [.c (.s (.int k a)), .c (.s (.int k b))] = if inK k (a + b) = true then some (.c (.s (.int k (a + b))), []) else none := by
  simp [run, runBin, binS, binI]
theorem run_sub' {d : Nat} {m : Nat → Option Obj} {k : IntKind} {a b : Int} : run Γ d m (.bin .sub) [.c (.s (.int k a)), .c (.s (.int k b))] = if inK k (a - b) = true then some (.c (.s (.int k (a - b))), []) else none := by
  simp [run, runBin, binS, binI]
theorem run_lenS' {d : Nat} {m : Nat → Option Obj} {s : List UInt8} : run Γ d m (.len true) [.c (.s (.str s))] = some (.c (.s (.int .i64 s.length)), []) := nr rfl
theorem run_lenL' {d : Nat} {m : Nat → Option Obj} {k : Nat} {rows : List (List S)} {f : Bool} : run Γ d m (.len false) [.c (.s (.list k rows f))] = some (.c (.s (.int .i64 rows.length)), []) := nr rfl
theorem run_idx' {d : Nat} {m : Nat → Option Obj} {k : IntKind} {s : List UInt8} {i : Int} : run Γ d m .idx [.c (.s (.str s)), .c (.s (.int k i))] = if 0 ≤ i ∧ i < s.length then some (.c (.s (.int .u8 ((s.getD i.toNat 0).toNat : Int))), []) else none := nr rfl
theorem run_call' {d : Nat} {m : Nat → Option Obj} {f : FuncId} {vals : List V} : run Γ d m (.call f) vals = callR Γ f d m vals := nr rfl
end
end Go.Ab
