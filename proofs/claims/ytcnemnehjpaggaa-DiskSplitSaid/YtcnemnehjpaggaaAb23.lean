/- Leaves: what a body hands back. -/
import Derived.Test.YtcnemnehjpaggaaAb22
set_option linter.all false
namespace Go.Ab
open Go
section
variable {m : Nat → Option Obj} {mem : Nat → Option Obj} {env : Nat → V}
def leaf1 (m : Nat → Option Obj) (x y : V) : Prop := outV m x y
theorem post_ret1 {t : Nat} {y : V} {st : AS} : postQ [.tmp t] (.v y) .ret st = leaf1 st.mem (st.env t) y := by
  apply propext
  simp only [postQ, resVals]
  constructor
  · rintro ⟨vs, hvs, ho⟩
    simp only [Option.some.injEq] at hvs; subst hvs
    simpa [outR, leaf1] using ho
  · intro h
    exact ⟨_, rfl, by simpa [outR, leaf1] using h⟩
theorem post_nrm1 {t : Nat} {y : V} {st : AS} : postQ [.tmp t] (.v y) .normal st = leaf1 st.mem (st.env t) y := post_ret1
def leaf2 (m : Nat → Option Obj) (x y : V) (ps : List (C ⊕ List C)) : Prop := outTs m [x, y] ps
theorem post_ret2 {t u : Nat} {ps : List (C ⊕ List C)} {st : AS} : postQ [.tmp t, .tmp u] (.v (.tup ps)) .ret st = leaf2 st.mem (st.env t) (st.env u) ps := by
  apply propext
  simp only [postQ, resVals]
  constructor
  · rintro ⟨vs, hvs, ho⟩
    simp only [Option.some.injEq] at hvs; subst hvs
    simpa [outR, leaf2] using ho
  · intro h
    exact ⟨_, rfl, by simpa [outR, leaf2] using h⟩
theorem leaf1_int {k : IntKind} {a b : Int} : leaf1 m (.c (.s (.int k a))) (.c (.s (.int k b))) = (a = b) := by
  simp [leaf1, outV, outS, Sle]
theorem leaf1_bool {a b : Bool} : leaf1 m (.c (.s (.bool a))) (.c (.s (.bool b))) = (a = b) := by
  simp [leaf1, outV, outS, Sle]
theorem leaf1_str {a b : List UInt8} : leaf1 m (.c (.s (.str a))) (.c (.s (.str b))) = (a = b) := by
  simp [leaf1, outV, outS, Sle]
theorem leaf1_tf {a : Bool} : leaf1 m (.c (.s (.bool a))) .tf = True := by simp [leaf1, outV]
theorem leaf2_s {x y x' y' : S} : leaf2 m (.c (.s x)) (.c (.s y)) [.inl (.s x'), .inl (.s y')] = (Sle x x' ∧ Sle y y') := by
  simp [leaf2, outTs, outS]
theorem Sle_int {k : IntKind} {a b : Int} : Sle (.int k a) (.int k b) = (a = b) := by simp [Sle]
theorem Sle_bool {a b : Bool} : Sle (.bool a) (.bool b) = (a = b) := by simp [Sle]
theorem Sle_str {a b : List UInt8} : Sle (.str a) (.str b) = (a = b) := by simp [Sle]
end
/-! ### The callees' specifications, one by one -/
def noS : FuncId → Spec := fun _ _ => none
def addS (Γ : FuncId → Spec) (f : FuncId) (F : Spec) : FuncId → Spec := fun g => if g = f then F else Γ g
theorem noS_ok (P : Program) : ∀ f, Contract P f (noS f) := fun f im w args vs r _ _ h => by simp [noS] at h
theorem addS_ok {P : Program} {Γ : FuncId → Spec} {f : FuncId} {F : Spec} (h : ∀ g, Contract P g (Γ g)) (hf : Contract P f F) : ∀ g, Contract P g (addS Γ f F g) := fun g => by
  unfold addS
  split
  · rename_i e; subst e; exact hf
  · exact h g
theorem addS_here {Γ : FuncId → Spec} {f : FuncId} {F : Spec} : addS Γ f F f = F := by simp [addS]
theorem plain_len {g : List V → Option V} {n : Nat} (h : ∀ args x, g args = some x → args.length = n) : ∀ args r, plain g args = some r → args.length = n := fun args r e => by
  obtain ⟨x, hx, _⟩ := Option.map_eq_some_iff.1 e
  exact h args x hx
end Go.Ab
