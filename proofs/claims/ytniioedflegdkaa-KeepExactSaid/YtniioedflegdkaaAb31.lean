/- A gated call of a function that hands back a new slice. -/
import Derived.Test.YtniioedflegdkaaAb28
set_option linter.all false
namespace Go.Ab
open Go
theorem exO_callf {Γ : FuncId → Spec} {d : Nat} {mem : Nat → Option Obj} {f : FuncId} {G : List V → Option (Nat × List (List S))} {vals : List V} {H : V → (Nat → Option Obj) → Prop} (hΓ : Γ f = fresh G) :
    exO (run Γ d mem (.call f) vals) (fun v ups => H v (setAll mem ups)) = callF G (argVs mem vals) mem (vals.flatMap locV) d H := by
  simp only [run, callR, callF, hΓ, fresh]
  cases argVs mem vals with
  | none => rfl
  | some vs =>
    simp only
    cases G vs with
    | none => rfl
    | some p =>
      simp only [Option.map_some, resV, Res.refless, Bool.or_false]
      cases hd : mem d with
      | some o => simp [exO]
      | none =>
        cases hl : (List.flatMap locV vals) with
        | nil => simp [exO, setAll, sealL]
        | cons a b => simp [exO, setAll_append, setAll]
theorem exT_callfG {Γ : FuncId → Spec} {t : Tr} {K : AS → Tr → Prop} {env : Nat → V} {mem : Nat → Option Obj} {dst : Option Nat} {args : List O} {r : List Op1} {f : FuncId} {G : List V → Option (Nat × List (List S))} {s : Nat} {b : Bool} (hΓ : Γ f = fresh G) :
    exT Γ (⟨dst, .call f, args, some (s, b)⟩ :: r) ⟨env, mem⟩ t K =
    gateB (env s) b (callF G (argVs mem (args.map (ev env))) mem ((args.map (ev env)).flatMap locV) (dst.getD 0) fun v m' => exT Γ r ⟨putD env dst v, m'⟩ (addT t (gate env (some (s, b))) (locsK (.call f) (args.map (ev env)) (dst.getD 0))) K)
      (exT Γ r ⟨putD env dst .undef, mem⟩ (addT t (gate env (some (s, b))) (locsK (.call f) (args.map (ev env)) (dst.getD 0))) K) := by
  rw [exT_cons (want_gate _ _), steps_cons]
  simp only [gateV_some, steps_nil]
  rw [exO_callf (H := fun v m' => exT Γ r ⟨putD env dst v, m'⟩ (addT t (gate env (some (s, b))) (locsK (.call f) (args.map (ev env)) (dst.getD 0))) K) hΓ]
end Go.Ab
