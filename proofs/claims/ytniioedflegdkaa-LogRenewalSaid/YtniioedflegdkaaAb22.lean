/- Calls that hand back data, without a split. -/
import Derived.Test.YtniioedflegdkaaAb21
set_option linter.all false
namespace Go.Ab
open Go

/-- A specification that hands back a value, out of sealed arguments. -/
def plain (g : List V → Option V) : Spec := fun vs => (g vs).map .v

theorem locs_of_args {m : Nat → Option Obj} : ∀ {vals : List V}, argVs m vals = some vals → vals.flatMap locV = []
  | [], _ => rfl
  | x :: r, h => by
    simp only [argVs] at h
    split at h
    · rename_i y ys h1 h2
      simp only [Option.some.injEq, List.cons.injEq] at h
      obtain ⟨rfl, rfl⟩ := h
      rw [List.flatMap_cons, locs_of_args h2, List.append_nil]
      have hC : ∀ {c : C}, argC m c = some c → locC c = [] := fun {c} hc => by
        cases c with
        | s x => rfl
        | ptr l o => simp only [argC] at hc; split at hc <;> simp at hc
        | own l n => simp [argC] at hc
        | optr l n i o => simp [argC] at hc
      have hCs : ∀ {cs : List C}, argCs m cs = some cs → cs.flatMap locC = [] := by
        intro cs
        induction cs with
        | nil => intro _; rfl
        | cons c cs ih =>
          intro hc
          simp only [argCs] at hc
          split at hc
          · rename_i z zs k1 k2
            simp only [Option.some.injEq, List.cons.injEq] at hc
            obtain ⟨rfl, rfl⟩ := hc
            rw [List.flatMap_cons, hC k1, ih k2]; rfl
          · cases hc
      cases y with
      | c x =>
        simp only [argV, Option.map_eq_some_iff, V.c.injEq, exists_eq_right] at h1
        exact hC h1
      | agg xs =>
        simp only [argV, Option.map_eq_some_iff, V.agg.injEq, exists_eq_right] at h1
        exact hCs h1
      | _ => rfl
    · cases h

theorem steps_callp {Γ : FuncId → Spec} {f : FuncId} {g : List V → Option V} (hΓ : Γ f = plain g) {env : Nat → V} {mem : Nat → Option Obj} {K : AS → Prop} {dst : Option Nat} {args : List O} {gd : Option (Nat × Bool)} {r : List Op1}
    (hl : gate env gd = true → argVs mem (args.map (ev env)) = some (args.map (ev env))) :
    exN (steps Γ (⟨dst, .call f, args, gd⟩ :: r) ⟨env, mem⟩) K = (gateWf env gd ∧ (gate env gd = true → (g (args.map (ev env))).isSome = true) ∧
      bindV (ifV (gate env gd) ((g (args.map (ev env))).getD .junk)) fun v => exN (steps Γ r ⟨putD env dst v, mem⟩) K) := by
  have hw : (want env gd = none ∧ ¬ gateWf env gd) ∨ (gateWf env gd ∧ want env gd = some (gate env gd)) := by
    cases gd with
    | none => exact .inr ⟨trivial, rfl⟩
    | some sb =>
      obtain ⟨s, b⟩ := sb
      simp only [want, gateWf, gate]
      cases env s with
      | c x => cases x with
        | s x => cases x <;> simp [gWf, gOn]
        | _ => simp [gWf]
      | undef => simp [gWf, gOn]
      | _ => simp [gWf]
  rcases hw with ⟨hw, hg⟩ | ⟨hg, hw⟩
  · simp [exN, steps, step1, hw, hg]
  · cases hgt : gate env gd with
    | false =>
      rw [hgt] at hw
      simp [exN, steps, step1, hw, hg, ifV, bindV]
    | true =>
      rw [hgt] at hw
      have ha := hl hgt
      have hlo := locs_of_args ha
      have hrun : run Γ (dst.getD 0) mem (.call f) (args.map (ev env)) = (g (args.map (ev env))).map fun x => (x, []) := by
        simp only [run, callR, ha, hΓ, plain]
        cases g (args.map (ev env)) with
        | none => rfl
        | some x => simp [resV, hlo]
      simp only [exN, steps, step1, hw, hrun, hg, true_and, forall_const, ifV, if_true, bindV]
      cases g (args.map (ev env)) with
      | none => simp
      | some x => simp [setAll]

section
variable {m : Nat → Option Obj}
theorem argVs_nil : argVs m [] = some [] := nr rfl
theorem argVs_s {x : S} {r : List V} : (argVs m (.c (.s x) :: r) = some (.c (.s x) :: r)) = (argVs m r = some r) := by
  simp only [argVs, argV, argC, Option.map_some]
  cases h : argVs m r <;> simp
end
end Go.Ab
