/- Operations without a trace in memory: their condition, and their value, without a split. -/
import Derived.Test.YtniioedflegdkaaAb17
set_option linter.all false
namespace Go.Ab
open Go

def okO (o : Out) : Prop := ∃ v, o = some (v, [])
def valO : Out → V
  | some p => p.1
  | none => .junk

def gOn : V → Bool → Bool
  | .c (.s (.bool y)), b => y == b
  | _, _ => false
def gWf : V → Prop
  | .c (.s (.bool _)) => True
  | .undef => True
  | _ => False
def gate (env : Nat → V) : Option (Nat × Bool) → Bool
  | none => true
  | some (s, b) => gOn (env s) b
def gateWf (env : Nat → V) : Option (Nat × Bool) → Prop
  | none => True
  | some (s, _) => gWf (env s)

def ifV (b : Bool) (v : V) : V := if b = true then v else .undef
def binV : BinOp → S → S → V
  | .add, .int k a, .int _ b => .c (.s (.int k (a + b)))
  | .sub, .int k a, .int _ b => .c (.s (.int k (a - b)))
  | .mul, .int k a, .int _ b => .c (.s (.int k (a * b)))
  | .quo, .int k a, .int _ b => .c (.s (.int k (a / b)))
  | .rem, .int k a, .int _ b => .c (.s (.int k (a % b)))
  | .add, .str a, .str b => .c (.s (.str (a ++ b)))
  | op, x, y => match binS op x y with
    | some r => .c (.s r)
    | none => .junk

/-- The value of an operation that leaves no trace, where it has one. -/
def runV (m : Nat → Option Obj) : K → List V → V
  | .bin op, [.c (.s x), .c (.s y)] => binV op x y
  | .idx, [.c (.s (.str s)), .c (.s (.int _ i))] => .c (.s (.int .u8 ((s.getD i.toNat 0).toNat : Int)))
  | .slcS true false, [.c (.s (.str s)), .c (.s (.int _ a))] => .c (.s (.str (s.drop a.toNat)))
  | .slcS false true, [.c (.s (.str s)), .c (.s (.int _ b))] => .c (.s (.str (s.take b.toNat)))
  | .slcS true true, [.c (.s (.str s)), .c (.s (.int _ a)), .c (.s (.int _ b))] => .c (.s (.str ((s.take b.toNat).drop a.toNat)))
  | k, args => valO (run (fun _ _ => none) 0 m k args)

def pureK : K → Bool
  | .mv | .pick | .not | .bin _ | .eqA .. | .eqB _ | .len _ | .isNil _ | .conv _ | .same | .toStr | .idx | .fld .. | .ext _ | .slcS .. | .slcL .. | .fadr _ | .iadr _ | .iadrP .. | .load .. | .build .. | .nilchk | .mnx _ => true
  | _ => false

theorem run_frame {Γ : FuncId → Spec} {d : Nat} {m : Nat → Option Obj} {k : K} {args : List V} (h : pureK k = true) : run Γ d m k args = run (fun _ _ => none) 0 m k args := by
  cases k <;> simp [pureK] at h <;> rfl

theorem binV_eq {op : BinOp} {x y : S} {r : S} (h : binS op x y = some r) : binV op x y = .c (.s r) := by
  unfold binV
  split
  case h_7 => rw [h]
  all_goals
    simp only [binS, binI] at h
    split at h <;> simp at h
    try (split at h <;> simp at h)
    try (first | rw [← h] | rw [← h.2] | skip)
    try rfl

theorem runV_eq {Γ : FuncId → Spec} {d : Nat} {m : Nat → Option Obj} {k : K} {args : List V} {v : V} {ups : List (Nat × Obj)} (h : run Γ d m k args = some (v, ups)) (hk : pureK k = true) : runV m k args = v := by
  rw [run_frame hk] at h
  unfold runV
  split
  · simp only [run, runBin, Option.map_eq_some_iff, Prod.mk.injEq] at h
    obtain ⟨r, hr, hv, -⟩ := h
    rw [binV_eq hr, hv]
  · simp only [run, runIdx] at h
    split at h <;> simp at h
    exact h.1
  · rename_i s k a
    simp only [run, runSlcS, split3, slcBounds, optI, intV] at h
    split at h <;> simp at h
    rename_i hx
    split at hx <;> simp at hx
    rw [← h.1, ← hx.1, ← hx.2.1]
    simp
  · rename_i s k a
    simp only [run, runSlcS, split3, slcBounds, optI, intV] at h
    split at h <;> simp at h
    rename_i hx
    split at hx <;> simp at hx
    rw [← h.1, ← hx.1, ← hx.2.1]
    simp
  · rename_i s k a k' b
    simp only [run, runSlcS, split3, slcBounds, optI, intV] at h
    split at h <;> simp at h
    rename_i hx
    split at hx <;> simp at hx
    rw [← h.1, ← hx.1, ← hx.2.1]
  · rw [h]; rfl

theorem ups_nil {Γ : FuncId → Spec} {d : Nat} {m : Nat → Option Obj} {k : K} {args : List V} {v : V} {ups : List (Nat × Obj)} (h : run Γ d m k args = some (v, ups)) (hk : pureK k = true) : ups = [] := by
  cases k <;> simp [pureK] at hk <;> simp only [run] at h
  case mv => unfold runMv at h; split at h <;> simp_all
  case pick => unfold runPick at h; split at h <;> first | (split at h <;> simp_all) | simp_all
  case not => unfold runNot at h; split at h <;> simp_all
  case bin => unfold runBin at h; split at h <;> (simp_all [Option.map_eq_some_iff] <;> first | done | exact h.choose_spec.2.2 | exact h.choose_spec.choose_spec.2.2 | (rcases h with h | h <;> exact h.2.2))
  case eqA => unfold runEqA at h; split at h <;> (simp_all [Option.map_eq_some_iff] <;> first | done | exact h.choose_spec.2.2 | exact h.choose_spec.choose_spec.2.2 | (rcases h with h | h <;> exact h.2.2))
  case eqB => unfold runEqB at h; split at h <;> simp_all
  case len => unfold runLen at h; split at h <;> first | (split at h <;> (simp_all [Option.map_eq_some_iff] <;> first | done | exact h.choose_spec.2.2 | exact h.choose_spec.choose_spec.2.2 | (rcases h with h | h <;> exact h.2.2))) | simp_all
  case isNil => unfold runNil at h; split at h <;> first | (split at h <;> simp_all) | simp_all
  case conv => unfold runConv at h; split at h <;> first | (split at h <;> simp_all) | simp_all
  case same => unfold runSame at h; split at h <;> simp_all
  case toStr =>
    unfold runToStr at h
    split at h
    · split at h
      · split at h <;> (simp_all [Option.map_eq_some_iff] <;> first | done | exact h.choose_spec.2.2 | exact h.choose_spec.choose_spec.2.2 | (rcases h with h | h <;> exact h.2.2))
      · simp at h
    · simp at h
  case idx => unfold runIdx at h; split at h <;> first | (split at h <;> simp_all) | simp_all
  case fld => unfold runFld at h; split at h <;> (simp_all [Option.map_eq_some_iff] <;> first | done | exact h.choose_spec.2.2 | exact h.choose_spec.choose_spec.2.2 | (rcases h with h | h <;> exact h.2.2))
  case ext => unfold runExt at h; split at h <;> first | (split at h <;> simp_all) | simp_all
  case slcS =>
    unfold runSlcS at h
    split at h
    · split at h
      · split at h <;> simp_all
      · simp at h
    · simp at h
  case slcL =>
    unfold runSlcL at h
    split at h
    · split at h
      · split at h
        · split at h <;> simp_all
        · simp at h
      · simp at h
    · simp at h
  case fadr =>
    unfold runFadr at h
    split at h
    · simp_all
    · split at h <;> simp_all
    · simp_all
    · simp at h
  case iadr =>
    unfold runIadr at h
    split at h
    · split at h <;> simp_all
    · split at h
      · split at h <;> simp_all
      · simp at h
    · simp at h
  case iadrP =>
    unfold runIadrP at h
    split at h
    · split at h <;> simp_all
    · split at h <;> simp_all
    · simp at h
  case load =>
    unfold runLoad at h
    split at h
    · split at h <;> (simp_all [Option.map_eq_some_iff] <;> first | done | exact h.choose_spec.2.2 | exact h.choose_spec.choose_spec.2.2 | (rcases h with h | h <;> exact h.2.2))
    · split at h <;> (simp_all [Option.map_eq_some_iff] <;> first | done | exact h.choose_spec.2.2 | exact h.choose_spec.choose_spec.2.2 | (rcases h with h | h <;> exact h.2.2))
    · (simp_all [Option.map_eq_some_iff] <;> first | done | exact h.choose_spec.2.2 | exact h.choose_spec.choose_spec.2.2 | (rcases h with h | h <;> exact h.2.2))
    · simp at h
  case build => unfold runBuild at h; (simp_all [Option.map_eq_some_iff] <;> first | done | exact h.choose_spec.2.2 | exact h.choose_spec.choose_spec.2.2 | (rcases h with h | h <;> exact h.2.2))
  case nilchk => unfold runNilchk at h; split at h <;> simp_all
  case mnx => unfold runMnx at h; split at h <;> simp_all

/-- A traceless operation in a row of them: its condition, and the rest with its value. -/
theorem steps_pure {Γ : FuncId → Spec} {st : AS} {K : AS → Prop} {o : Op1} {r : List Op1} (hk : pureK o.kind = true) :
    exN (steps Γ (o :: r) st) K = (gateWf st.env o.guard ∧ (gate st.env o.guard = true → okO (run (fun _ _ => none) 0 st.mem o.kind (o.args.map (ev st.env)))) ∧
      exN (steps Γ r ⟨putD st.env o.dst (ifV (gate st.env o.guard) (runV st.mem o.kind (o.args.map (ev st.env)))), st.mem⟩) K) := by
  have hw : (want st.env o.guard = none ∧ ¬ gateWf st.env o.guard) ∨ (gateWf st.env o.guard ∧ want st.env o.guard = some (gate st.env o.guard)) := by
    cases o.guard with
    | none => exact .inr ⟨trivial, rfl⟩
    | some sb =>
      obtain ⟨s, b⟩ := sb
      simp only [want, gateWf, gate]
      cases st.env s with
      | c x => cases x with
        | s x => cases x <;> simp [gWf, gOn]
        | _ => simp [gWf]
      | undef => simp [gWf, gOn]
      | _ => simp [gWf]
  rcases hw with ⟨hw, hg⟩ | ⟨hg, hw⟩
  · simp [exN, steps, step1, hw, hg, ifV]
  · cases hgt : gate st.env o.guard with
    | false =>
      rw [hgt] at hw
      simp [exN, steps, step1, hw, hg, ifV]
    | true =>
      rw [hgt] at hw
      simp only [exN, steps, step1, hw, hg, true_and, forall_const, if_true]
      rw [← run_frame (Γ := Γ) (d := o.dst.getD 0) hk]
      cases hr : run Γ (o.dst.getD 0) st.mem o.kind (o.args.map (ev st.env)) with
      | none => simp [okO]
      | some p =>
        obtain ⟨v, ups⟩ := p
        have h1 := ups_nil hr hk
        have h2 := runV_eq hr hk
        subst h1
        simp [okO, setAll, h2, ifV]

/-- A value that is reckoned before it is laid down. -/
def bindV (v : V) (K : V → Prop) : Prop := K v
theorem bindV_eq {v : V} {K : V → Prop} : bindV v K = K v := nr rfl
theorem bindV_congr {v v' : V} {K : V → Prop} (h : v = v') : bindV v K = bindV v' K := by rw [h]
attribute [congr] bindV_congr
theorem steps_mv {Γ : FuncId → Spec} {env : Nat → V} {mem : Nat → Option Obj} {K : AS → Prop} {dst : Option Nat} {args : List O} {g : Option (Nat × Bool)} {r : List Op1} :
    exN (steps Γ (⟨dst, .mv, args, g⟩ :: r) ⟨env, mem⟩) K = (gateWf env g ∧ (gate env g = true → okO (run (fun _ _ => none) 0 mem .mv (args.map (ev env)))) ∧
      bindV (ifV (gate env g) (runV mem .mv (args.map (ev env)))) fun v => exN (steps Γ r ⟨putD env dst v, mem⟩) K) := steps_pure rfl
theorem steps_pick {Γ : FuncId → Spec} {env : Nat → V} {mem : Nat → Option Obj} {K : AS → Prop} {dst : Option Nat} {args : List O} {g : Option (Nat × Bool)} {r : List Op1} :
    exN (steps Γ (⟨dst, .pick, args, g⟩ :: r) ⟨env, mem⟩) K = (gateWf env g ∧ (gate env g = true → okO (run (fun _ _ => none) 0 mem .pick (args.map (ev env)))) ∧
      bindV (ifV (gate env g) (runV mem .pick (args.map (ev env)))) fun v => exN (steps Γ r ⟨putD env dst v, mem⟩) K) := steps_pure rfl
theorem steps_not {Γ : FuncId → Spec} {env : Nat → V} {mem : Nat → Option Obj} {K : AS → Prop} {dst : Option Nat} {args : List O} {g : Option (Nat × Bool)} {r : List Op1} :
    exN (steps Γ (⟨dst, .not, args, g⟩ :: r) ⟨env, mem⟩) K = (gateWf env g ∧ (gate env g = true → okO (run (fun _ _ => none) 0 mem .not (args.map (ev env)))) ∧
      bindV (ifV (gate env g) (runV mem .not (args.map (ev env)))) fun v => exN (steps Γ r ⟨putD env dst v, mem⟩) K) := steps_pure rfl
theorem steps_bin {Γ : FuncId → Spec} {env : Nat → V} {mem : Nat → Option Obj} {K : AS → Prop} {dst : Option Nat} {args : List O} {g : Option (Nat × Bool)} {r : List Op1} {op : BinOp} :
    exN (steps Γ (⟨dst, (.bin op), args, g⟩ :: r) ⟨env, mem⟩) K = (gateWf env g ∧ (gate env g = true → okO (run (fun _ _ => none) 0 mem (.bin op) (args.map (ev env)))) ∧
      bindV (ifV (gate env g) (runV mem (.bin op) (args.map (ev env)))) fun v => exN (steps Γ r ⟨putD env dst v, mem⟩) K) := steps_pure rfl
theorem steps_eqA {Γ : FuncId → Spec} {env : Nat → V} {mem : Nat → Option Obj} {K : AS → Prop} {dst : Option Nat} {args : List O} {g : Option (Nat × Bool)} {r : List Op1} {neg : Bool} {tags : List Nat} :
    exN (steps Γ (⟨dst, (.eqA neg tags), args, g⟩ :: r) ⟨env, mem⟩) K = (gateWf env g ∧ (gate env g = true → okO (run (fun _ _ => none) 0 mem (.eqA neg tags) (args.map (ev env)))) ∧
      bindV (ifV (gate env g) (runV mem (.eqA neg tags) (args.map (ev env)))) fun v => exN (steps Γ r ⟨putD env dst v, mem⟩) K) := steps_pure rfl
theorem steps_eqB {Γ : FuncId → Spec} {env : Nat → V} {mem : Nat → Option Obj} {K : AS → Prop} {dst : Option Nat} {args : List O} {g : Option (Nat × Bool)} {r : List Op1} {neg : Bool} :
    exN (steps Γ (⟨dst, (.eqB neg), args, g⟩ :: r) ⟨env, mem⟩) K = (gateWf env g ∧ (gate env g = true → okO (run (fun _ _ => none) 0 mem (.eqB neg) (args.map (ev env)))) ∧
      bindV (ifV (gate env g) (runV mem (.eqB neg) (args.map (ev env)))) fun v => exN (steps Γ r ⟨putD env dst v, mem⟩) K) := steps_pure rfl
theorem steps_len {Γ : FuncId → Spec} {env : Nat → V} {mem : Nat → Option Obj} {K : AS → Prop} {dst : Option Nat} {args : List O} {g : Option (Nat × Bool)} {r : List Op1} {s : Bool} :
    exN (steps Γ (⟨dst, (.len s), args, g⟩ :: r) ⟨env, mem⟩) K = (gateWf env g ∧ (gate env g = true → okO (run (fun _ _ => none) 0 mem (.len s) (args.map (ev env)))) ∧
      bindV (ifV (gate env g) (runV mem (.len s) (args.map (ev env)))) fun v => exN (steps Γ r ⟨putD env dst v, mem⟩) K) := steps_pure rfl
theorem steps_isNil {Γ : FuncId → Spec} {env : Nat → V} {mem : Nat → Option Obj} {K : AS → Prop} {dst : Option Nat} {args : List O} {g : Option (Nat × Bool)} {r : List Op1} {neg : Bool} :
    exN (steps Γ (⟨dst, (.isNil neg), args, g⟩ :: r) ⟨env, mem⟩) K = (gateWf env g ∧ (gate env g = true → okO (run (fun _ _ => none) 0 mem (.isNil neg) (args.map (ev env)))) ∧
      bindV (ifV (gate env g) (runV mem (.isNil neg) (args.map (ev env)))) fun v => exN (steps Γ r ⟨putD env dst v, mem⟩) K) := steps_pure rfl
theorem steps_conv {Γ : FuncId → Spec} {env : Nat → V} {mem : Nat → Option Obj} {K : AS → Prop} {dst : Option Nat} {args : List O} {g : Option (Nat × Bool)} {r : List Op1} {k : IntKind} :
    exN (steps Γ (⟨dst, (.conv k), args, g⟩ :: r) ⟨env, mem⟩) K = (gateWf env g ∧ (gate env g = true → okO (run (fun _ _ => none) 0 mem (.conv k) (args.map (ev env)))) ∧
      bindV (ifV (gate env g) (runV mem (.conv k) (args.map (ev env)))) fun v => exN (steps Γ r ⟨putD env dst v, mem⟩) K) := steps_pure rfl
theorem steps_same {Γ : FuncId → Spec} {env : Nat → V} {mem : Nat → Option Obj} {K : AS → Prop} {dst : Option Nat} {args : List O} {g : Option (Nat × Bool)} {r : List Op1} :
    exN (steps Γ (⟨dst, .same, args, g⟩ :: r) ⟨env, mem⟩) K = (gateWf env g ∧ (gate env g = true → okO (run (fun _ _ => none) 0 mem .same (args.map (ev env)))) ∧
      bindV (ifV (gate env g) (runV mem .same (args.map (ev env)))) fun v => exN (steps Γ r ⟨putD env dst v, mem⟩) K) := steps_pure rfl
theorem steps_toStr {Γ : FuncId → Spec} {env : Nat → V} {mem : Nat → Option Obj} {K : AS → Prop} {dst : Option Nat} {args : List O} {g : Option (Nat × Bool)} {r : List Op1} :
    exN (steps Γ (⟨dst, .toStr, args, g⟩ :: r) ⟨env, mem⟩) K = (gateWf env g ∧ (gate env g = true → okO (run (fun _ _ => none) 0 mem .toStr (args.map (ev env)))) ∧
      bindV (ifV (gate env g) (runV mem .toStr (args.map (ev env)))) fun v => exN (steps Γ r ⟨putD env dst v, mem⟩) K) := steps_pure rfl
theorem steps_idx {Γ : FuncId → Spec} {env : Nat → V} {mem : Nat → Option Obj} {K : AS → Prop} {dst : Option Nat} {args : List O} {g : Option (Nat × Bool)} {r : List Op1} :
    exN (steps Γ (⟨dst, .idx, args, g⟩ :: r) ⟨env, mem⟩) K = (gateWf env g ∧ (gate env g = true → okO (run (fun _ _ => none) 0 mem .idx (args.map (ev env)))) ∧
      bindV (ifV (gate env g) (runV mem .idx (args.map (ev env)))) fun v => exN (steps Γ r ⟨putD env dst v, mem⟩) K) := steps_pure rfl
theorem steps_fld {Γ : FuncId → Spec} {env : Nat → V} {mem : Nat → Option Obj} {K : AS → Prop} {dst : Option Nat} {args : List O} {g : Option (Nat × Bool)} {r : List Op1} {off n : Nat} {agg : Bool} :
    exN (steps Γ (⟨dst, (.fld off n agg), args, g⟩ :: r) ⟨env, mem⟩) K = (gateWf env g ∧ (gate env g = true → okO (run (fun _ _ => none) 0 mem (.fld off n agg) (args.map (ev env)))) ∧
      bindV (ifV (gate env g) (runV mem (.fld off n agg) (args.map (ev env)))) fun v => exN (steps Γ r ⟨putD env dst v, mem⟩) K) := steps_pure rfl
theorem steps_ext {Γ : FuncId → Spec} {env : Nat → V} {mem : Nat → Option Obj} {K : AS → Prop} {dst : Option Nat} {args : List O} {g : Option (Nat × Bool)} {r : List Op1} {i : Nat} :
    exN (steps Γ (⟨dst, (.ext i), args, g⟩ :: r) ⟨env, mem⟩) K = (gateWf env g ∧ (gate env g = true → okO (run (fun _ _ => none) 0 mem (.ext i) (args.map (ev env)))) ∧
      bindV (ifV (gate env g) (runV mem (.ext i) (args.map (ev env)))) fun v => exN (steps Γ r ⟨putD env dst v, mem⟩) K) := steps_pure rfl
theorem steps_slcS {Γ : FuncId → Spec} {env : Nat → V} {mem : Nat → Option Obj} {K : AS → Prop} {dst : Option Nat} {args : List O} {g : Option (Nat × Bool)} {r : List Op1} {lo hi : Bool} :
    exN (steps Γ (⟨dst, (.slcS lo hi), args, g⟩ :: r) ⟨env, mem⟩) K = (gateWf env g ∧ (gate env g = true → okO (run (fun _ _ => none) 0 mem (.slcS lo hi) (args.map (ev env)))) ∧
      bindV (ifV (gate env g) (runV mem (.slcS lo hi) (args.map (ev env)))) fun v => exN (steps Γ r ⟨putD env dst v, mem⟩) K) := steps_pure rfl
theorem steps_slcL {Γ : FuncId → Spec} {env : Nat → V} {mem : Nat → Option Obj} {K : AS → Prop} {dst : Option Nat} {args : List O} {g : Option (Nat × Bool)} {r : List Op1} {k : Nat} {lo hi mx : Bool} :
    exN (steps Γ (⟨dst, (.slcL k lo hi mx), args, g⟩ :: r) ⟨env, mem⟩) K = (gateWf env g ∧ (gate env g = true → okO (run (fun _ _ => none) 0 mem (.slcL k lo hi mx) (args.map (ev env)))) ∧
      bindV (ifV (gate env g) (runV mem (.slcL k lo hi mx) (args.map (ev env)))) fun v => exN (steps Γ r ⟨putD env dst v, mem⟩) K) := steps_pure rfl
theorem steps_fadr {Γ : FuncId → Spec} {env : Nat → V} {mem : Nat → Option Obj} {K : AS → Prop} {dst : Option Nat} {args : List O} {g : Option (Nat × Bool)} {r : List Op1} {off : Nat} :
    exN (steps Γ (⟨dst, (.fadr off), args, g⟩ :: r) ⟨env, mem⟩) K = (gateWf env g ∧ (gate env g = true → okO (run (fun _ _ => none) 0 mem (.fadr off) (args.map (ev env)))) ∧
      bindV (ifV (gate env g) (runV mem (.fadr off) (args.map (ev env)))) fun v => exN (steps Γ r ⟨putD env dst v, mem⟩) K) := steps_pure rfl
theorem steps_iadr {Γ : FuncId → Spec} {env : Nat → V} {mem : Nat → Option Obj} {K : AS → Prop} {dst : Option Nat} {args : List O} {g : Option (Nat × Bool)} {r : List Op1} {k : Nat} :
    exN (steps Γ (⟨dst, (.iadr k), args, g⟩ :: r) ⟨env, mem⟩) K = (gateWf env g ∧ (gate env g = true → okO (run (fun _ _ => none) 0 mem (.iadr k) (args.map (ev env)))) ∧
      bindV (ifV (gate env g) (runV mem (.iadr k) (args.map (ev env)))) fun v => exN (steps Γ r ⟨putD env dst v, mem⟩) K) := steps_pure rfl
theorem steps_iadrP {Γ : FuncId → Spec} {env : Nat → V} {mem : Nat → Option Obj} {K : AS → Prop} {dst : Option Nat} {args : List O} {g : Option (Nat × Bool)} {r : List Op1} {n k : Nat} :
    exN (steps Γ (⟨dst, (.iadrP n k), args, g⟩ :: r) ⟨env, mem⟩) K = (gateWf env g ∧ (gate env g = true → okO (run (fun _ _ => none) 0 mem (.iadrP n k) (args.map (ev env)))) ∧
      bindV (ifV (gate env g) (runV mem (.iadrP n k) (args.map (ev env)))) fun v => exN (steps Γ r ⟨putD env dst v, mem⟩) K) := steps_pure rfl
theorem steps_load {Γ : FuncId → Spec} {env : Nat → V} {mem : Nat → Option Obj} {K : AS → Prop} {dst : Option Nat} {args : List O} {g : Option (Nat × Bool)} {r : List Op1} {n : Nat} {agg : Bool} :
    exN (steps Γ (⟨dst, (.load n agg), args, g⟩ :: r) ⟨env, mem⟩) K = (gateWf env g ∧ (gate env g = true → okO (run (fun _ _ => none) 0 mem (.load n agg) (args.map (ev env)))) ∧
      bindV (ifV (gate env g) (runV mem (.load n agg) (args.map (ev env)))) fun v => exN (steps Γ r ⟨putD env dst v, mem⟩) K) := steps_pure rfl
theorem steps_build {Γ : FuncId → Spec} {env : Nat → V} {mem : Nat → Option Obj} {K : AS → Prop} {dst : Option Nat} {args : List O} {g : Option (Nat × Bool)} {r : List Op1} {zero : List S} {at_ : List (Nat × Nat)} :
    exN (steps Γ (⟨dst, (.build zero at_), args, g⟩ :: r) ⟨env, mem⟩) K = (gateWf env g ∧ (gate env g = true → okO (run (fun _ _ => none) 0 mem (.build zero at_) (args.map (ev env)))) ∧
      bindV (ifV (gate env g) (runV mem (.build zero at_) (args.map (ev env)))) fun v => exN (steps Γ r ⟨putD env dst v, mem⟩) K) := steps_pure rfl
theorem steps_nilchk {Γ : FuncId → Spec} {env : Nat → V} {mem : Nat → Option Obj} {K : AS → Prop} {dst : Option Nat} {args : List O} {g : Option (Nat × Bool)} {r : List Op1} :
    exN (steps Γ (⟨dst, .nilchk, args, g⟩ :: r) ⟨env, mem⟩) K = (gateWf env g ∧ (gate env g = true → okO (run (fun _ _ => none) 0 mem .nilchk (args.map (ev env)))) ∧
      bindV (ifV (gate env g) (runV mem .nilchk (args.map (ev env)))) fun v => exN (steps Γ r ⟨putD env dst v, mem⟩) K) := steps_pure rfl
theorem steps_mnx {Γ : FuncId → Spec} {env : Nat → V} {mem : Nat → Option Obj} {K : AS → Prop} {dst : Option Nat} {args : List O} {g : Option (Nat × Bool)} {r : List Op1} {isMax : Bool} :
    exN (steps Γ (⟨dst, (.mnx isMax), args, g⟩ :: r) ⟨env, mem⟩) K = (gateWf env g ∧ (gate env g = true → okO (run (fun _ _ => none) 0 mem (.mnx isMax) (args.map (ev env)))) ∧
      bindV (ifV (gate env g) (runV mem (.mnx isMax) (args.map (ev env)))) fun v => exN (steps Γ r ⟨putD env dst v, mem⟩) K) := steps_pure rfl

/-! Values under a condition -/
theorem b_true_and {b : Bool} : (true && b) = b := nr rfl
theorem b_and_true {b : Bool} : (b && true) = b := by cases b <;> rfl
theorem b_false_and {b : Bool} : (false && b) = false := nr rfl
theorem b_true_or {b : Bool} : (true || b) = true := nr rfl
theorem b_false_or {b : Bool} : (false || b) = b := nr rfl
theorem b_not_true : (!true) = false := nr rfl
theorem b_not_false : (!false) = true := nr rfl
theorem ifV_true {v : V} : ifV true v = v := nr rfl
theorem ifV_false {v : V} : ifV false v = .undef := nr rfl
theorem gOn_true {y : Bool} : gOn (.c (.s (.bool y))) true = y := by cases y <;> rfl
theorem gOn_false {y : Bool} : gOn (.c (.s (.bool y))) false = !y := by cases y <;> rfl
theorem gOn_undef {b : Bool} : gOn .undef b = false := nr rfl
theorem gOn_ifV {c b : Bool} {v : V} : gOn (ifV c v) b = (c && gOn v b) := by cases c <;> rfl
theorem gWf_bool {y : Bool} : gWf (.c (.s (.bool y))) = True := nr rfl
theorem gWf_undef : gWf .undef = True := nr rfl
theorem gWf_ifV {c : Bool} {v : V} : gWf (ifV c v) = (c = true → gWf v) := by cases c <;> simp [ifV, gWf]
theorem gate_none {env : Nat → V} : gate env none = true := nr rfl
theorem gate_some {env : Nat → V} {s : Nat} {b : Bool} : gate env (some (s, b)) = gOn (env s) b := nr rfl
theorem gateWf_none {env : Nat → V} : gateWf env none = True := nr rfl
theorem gateWf_some {env : Nat → V} {s : Nat} {b : Bool} : gateWf env (some (s, b)) = gWf (env s) := nr rfl
theorem okO_some {v : V} : okO (some (v, [])) = True := by simp [okO]
theorem okO_guard {c : Prop} [Decidable c] {a : Out} : okO (if c then a else none) = (c ∧ okO a) := by
  by_cases h : c <;> simp [h, okO]
theorem okO_ite {c : Prop} [Decidable c] {a b : Out} : okO (if c then a else b) = ((c → okO a) ∧ (¬ c → okO b)) := by
  by_cases h : c <;> simp [h]
/-- ifV's value may be reckoned with its condition at hand. -/
theorem ifV_congr {c c' : Bool} {v v' : V} {G : Prop} (h : c = c') (h0 : (c' = true) = G) (h' : G → v = v') : ifV c v = ifV c' v' := by
  subst h; subst h0; cases c with
  | true => exact h' rfl
  | false => rfl
attribute [congr] ifV_congr

theorem v_mv {m : Nat → Option Obj} {x : V} : runV m .mv [x] = x := nr rfl
theorem v_not {m : Nat → Option Obj} {t : Bool} : runV m .not [.c (.s (.bool t))] = .c (.s (.bool (!t))) := nr rfl
def pickV (t : Bool) (a b : V) : V := if t = true then a else b
theorem v_pick {m : Nat → Option Obj} {t : Bool} {a b : V} : runV m .pick [.c (.s (.bool t)), a, b] = pickV t a b := by
  cases t <;> rfl
theorem pickV_congr {t t' : Bool} {a a' b b' : V} {G H : Prop} (h : t = t') (h0 : (t' = true) = G) (h1 : (t' = false) = H) (ha : G → a = a') (hb : H → b = b') : pickV t a b = pickV t' a' b' := by
  subst h; subst h0; subst h1; cases t with
  | true => exact ha rfl
  | false => exact hb rfl
attribute [congr] pickV_congr
theorem pickV_true {a b : V} : pickV true a b = a := nr rfl
theorem pickV_false {a b : V} : pickV false a b = b := nr rfl
theorem pickV_and {t x : Bool} : pickV t (.c (.s (.bool x))) (.c (.s (.bool false))) = .c (.s (.bool (t && x))) := by cases t <;> rfl
theorem pickV_or {t x : Bool} : pickV t (.c (.s (.bool true))) (.c (.s (.bool x))) = .c (.s (.bool (t || x))) := by cases t <;> rfl
theorem ok_mv {Γ : FuncId → Spec} {m : Nat → Option Obj} {d : Nat} {x : V} : okO (run Γ d m .mv [x]) = True := by simp [okO, run, runMv]
theorem ok_not {Γ : FuncId → Spec} {m : Nat → Option Obj} {d : Nat} {t : Bool} : okO (run Γ d m .not [.c (.s (.bool t))]) = True := by simp [okO, run, runNot]
theorem ok_pick {Γ : FuncId → Spec} {m : Nat → Option Obj} {d : Nat} {t : Bool} {a b : V} : okO (run Γ d m .pick [.c (.s (.bool t)), a, b]) = True := by cases t <;> simp [okO, run, runPick]
theorem v_lss {m : Nat → Option Obj} {k : IntKind} {a b : Int} : runV m (.bin .lss) [.c (.s (.int k a)), .c (.s (.int k b))] = .c (.s (.bool (decide (a < b)))) := by simp [runV, binV, binS, binI]
theorem v_leq {m : Nat → Option Obj} {k : IntKind} {a b : Int} : runV m (.bin .leq) [.c (.s (.int k a)), .c (.s (.int k b))] = .c (.s (.bool (decide (a ≤ b)))) := by simp [runV, binV, binS, binI]
theorem v_gtr {m : Nat → Option Obj} {k : IntKind} {a b : Int} : runV m (.bin .gtr) [.c (.s (.int k a)), .c (.s (.int k b))] = .c (.s (.bool (decide (b < a)))) := by simp [runV, binV, binS, binI]
theorem v_geq {m : Nat → Option Obj} {k : IntKind} {a b : Int} : runV m (.bin .geq) [.c (.s (.int k a)), .c (.s (.int k b))] = .c (.s (.bool (decide (b ≤ a)))) := by simp [runV, binV, binS, binI]
theorem v_eql {m : Nat → Option Obj} {k : IntKind} {a b : Int} : runV m (.bin .eql) [.c (.s (.int k a)), .c (.s (.int k b))] = .c (.s (.bool (decide (a = b)))) := by
  simp [runV, binV, binS, binI]
  by_cases h : a = b <;> simp [h]
theorem v_neq {m : Nat → Option Obj} {k : IntKind} {a b : Int} : runV m (.bin .neq) [.c (.s (.int k a)), .c (.s (.int k b))] = .c (.s (.bool (!decide (a = b)))) := by
  simp [runV, binV, binS, binI, bne]
  by_cases h : a = b <;> simp [h]
theorem v_seql {m : Nat → Option Obj} {a b : List UInt8} : runV m (.bin .eql) [.c (.s (.str a)), .c (.s (.str b))] = .c (.s (.bool (decide (a = b)))) := by
  simp [runV, binV, binS, binI]
  by_cases h : a = b <;> simp [h]
theorem v_sneq {m : Nat → Option Obj} {a b : List UInt8} : runV m (.bin .neq) [.c (.s (.str a)), .c (.s (.str b))] = .c (.s (.bool (!decide (a = b)))) := by
  simp [runV, binV, binS, binI, bne]
  by_cases h : a = b <;> simp [h]
theorem v_add {m : Nat → Option Obj} {k : IntKind} {a b : Int} : runV m (.bin .add) [.c (.s (.int k a)), .c (.s (.int k b))] = .c (.s (.int k (a + b))) := nr rfl
theorem v_sub {m : Nat → Option Obj} {k : IntKind} {a b : Int} : runV m (.bin .sub) [.c (.s (.int k a)), .c (.s (.int k b))] = .c (.s (.int k (a - b))) := nr rfl
theorem v_mul {m : Nat → Option Obj} {k : IntKind} {a b : Int} : runV m (.bin .mul) [.c (.s (.int k a)), .c (.s (.int k b))] = .c (.s (.int k (a * b))) := nr rfl
theorem v_sadd {m : Nat → Option Obj} {a b : List UInt8} : runV m (.bin .add) [.c (.s (.str a)), .c (.s (.str b))] = .c (.s (.str (a ++ b))) := nr rfl
theorem v_lenS {m : Nat → Option Obj} {s : List UInt8} : runV m (.len true) [.c (.s (.str s))] = .c (.s (.int .i64 s.length)) := nr rfl
theorem v_lenL {m : Nat → Option Obj} {k : Nat} {rows : List (List S)} {f : Bool} : runV m (.len false) [.c (.s (.list k rows f))] = .c (.s (.int .i64 rows.length)) := nr rfl
theorem v_idx {m : Nat → Option Obj} {k : IntKind} {s : List UInt8} {i : Int} : runV m .idx [.c (.s (.str s)), .c (.s (.int k i))] = .c (.s (.int .u8 ((s.getD i.toNat 0).toNat : Int))) := nr rfl
theorem v_slcL {m : Nat → Option Obj} {k : IntKind} {s : List UInt8} {i : Int} : runV m (.slcS true false) [.c (.s (.str s)), .c (.s (.int k i))] = .c (.s (.str (s.drop i.toNat))) := nr rfl
theorem v_slcH {m : Nat → Option Obj} {k : IntKind} {s : List UInt8} {i : Int} : runV m (.slcS false true) [.c (.s (.str s)), .c (.s (.int k i))] = .c (.s (.str (s.take i.toNat))) := nr rfl
theorem v_slcB {m : Nat → Option Obj} {k k' : IntKind} {s : List UInt8} {i j : Int} : runV m (.slcS true true) [.c (.s (.str s)), .c (.s (.int k i)), .c (.s (.int k' j))] = .c (.s (.str ((s.take j.toNat).drop i.toNat))) := nr rfl
theorem v_ext {m : Nat → Option Obj} {i : Nat} {xs : List (C ⊕ List C)} : runV m (.ext i) [.tup xs] = valO (runExt i [.tup xs]) := nr rfl
theorem valO_some {p : V × List (Nat × Obj)} : valO (some p) = p.1 := nr rfl
section
variable {Γ : FuncId → Spec} {m : Nat → Option Obj} {d : Nat}
theorem ok_cmp {op : BinOp} {k : IntKind} {a b : Int} (h : op = .lss ∨ op = .leq ∨ op = .gtr ∨ op = .geq ∨ op = .eql ∨ op = .neq) : okO (run Γ d m (.bin op) [.c (.s (.int k a)), .c (.s (.int k b))]) = True := by
  rcases h with h | h | h | h | h | h <;> subst h <;> simp [okO, run, runBin, binS, binI]
theorem ok_lss {k : IntKind} {a b : Int} : okO (run Γ d m (.bin .lss) [.c (.s (.int k a)), .c (.s (.int k b))]) = True := ok_cmp (by simp)
theorem ok_leq {k : IntKind} {a b : Int} : okO (run Γ d m (.bin .leq) [.c (.s (.int k a)), .c (.s (.int k b))]) = True := ok_cmp (by simp)
theorem ok_gtr {k : IntKind} {a b : Int} : okO (run Γ d m (.bin .gtr) [.c (.s (.int k a)), .c (.s (.int k b))]) = True := ok_cmp (by simp)
theorem ok_geq {k : IntKind} {a b : Int} : okO (run Γ d m (.bin .geq) [.c (.s (.int k a)), .c (.s (.int k b))]) = True := ok_cmp (by simp)
theorem ok_eql {k : IntKind} {a b : Int} : okO (run Γ d m (.bin .eql) [.c (.s (.int k a)), .c (.s (.int k b))]) = True := ok_cmp (by simp)
theorem ok_neq {k : IntKind} {a b : Int} : okO (run Γ d m (.bin .neq) [.c (.s (.int k a)), .c (.s (.int k b))]) = True := ok_cmp (by simp)
theorem ok_seql {a b : List UInt8} : okO (run Γ d m (.bin .eql) [.c (.s (.str a)), .c (.s (.str b))]) = True := by simp [okO, run, runBin, binS]
theorem ok_sneq {a b : List UInt8} : okO (run Γ d m (.bin .neq) [.c (.s (.str a)), .c (.s (.str b))]) = True := by simp [okO, run, runBin, binS]
theorem ok_add {k : IntKind} {a b : Int} : okO (run Γ d m (.bin .add) [.c (.s (.int k a)), .c (.s (.int k b))]) = (k.min ≤ a + b ∧ a + b ≤ k.max) := by
  by_cases h : k.min ≤ a + b ∧ a + b ≤ k.max <;> simp [okO, run, runBin, binS, binI, inK, h]
theorem ok_sub {k : IntKind} {a b : Int} : okO (run Γ d m (.bin .sub) [.c (.s (.int k a)), .c (.s (.int k b))]) = (k.min ≤ a - b ∧ a - b ≤ k.max) := by
  by_cases h : k.min ≤ a - b ∧ a - b ≤ k.max <;> simp [okO, run, runBin, binS, binI, inK, h]
theorem ok_mul {k : IntKind} {a b : Int} : okO (run Γ d m (.bin .mul) [.c (.s (.int k a)), .c (.s (.int k b))]) = (k.min ≤ a * b ∧ a * b ≤ k.max) := by
  by_cases h : k.min ≤ a * b ∧ a * b ≤ k.max <;> simp [okO, run, runBin, binS, binI, inK, h]
theorem ok_sadd {a b : List UInt8} : okO (run Γ d m (.bin .add) [.c (.s (.str a)), .c (.s (.str b))]) = (((a.length + b.length : Nat) : Int) ≤ 9223372036854775807) := by
  by_cases h : ((a.length + b.length : Nat) : Int) ≤ 9223372036854775807 <;> simp only [okO, run, runBin, binS, maxInt, h] <;> simp
theorem ok_lenS {s : List UInt8} : okO (run Γ d m (.len true) [.c (.s (.str s))]) = True := by simp [okO, run, runLen]
theorem ok_lenL {k : Nat} {rows : List (List S)} {f : Bool} : okO (run Γ d m (.len false) [.c (.s (.list k rows f))]) = True := by simp [okO, run, runLen]
theorem ok_idx {k : IntKind} {s : List UInt8} {i : Int} : okO (run Γ d m .idx [.c (.s (.str s)), .c (.s (.int k i))]) = (0 ≤ i ∧ i < s.length) := by
  by_cases h : 0 ≤ i ∧ i < s.length <;> simp [okO, run, runIdx, h]
theorem ok_slcL {k : IntKind} {s : List UInt8} {i : Int} : okO (run Γ d m (.slcS true false) [.c (.s (.str s)), .c (.s (.int k i))]) = (0 ≤ i ∧ i ≤ s.length) := by
  by_cases h : 0 ≤ i ∧ i ≤ s.length <;> simp [okO, run, runSlcS, split3, slcBounds, optI, intV, h]
theorem ok_slcH {k : IntKind} {s : List UInt8} {i : Int} : okO (run Γ d m (.slcS false true) [.c (.s (.str s)), .c (.s (.int k i))]) = (0 ≤ i ∧ i ≤ s.length) := by
  by_cases h : 0 ≤ i ∧ i ≤ s.length <;> simp [okO, run, runSlcS, split3, slcBounds, optI, intV, h]
theorem ok_slcB {k k' : IntKind} {s : List UInt8} {i j : Int} : okO (run Γ d m (.slcS true true) [.c (.s (.str s)), .c (.s (.int k i)), .c (.s (.int k' j))]) = (0 ≤ i ∧ i ≤ j ∧ j ≤ s.length) := by
  by_cases h : 0 ≤ i ∧ i ≤ j ∧ j ≤ s.length <;> simp [okO, run, runSlcS, split3, slcBounds, optI, intV, h]
end
end Go.Ab
