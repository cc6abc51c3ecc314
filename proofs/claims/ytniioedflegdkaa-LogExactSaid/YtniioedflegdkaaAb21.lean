/- Weaker states; loops. -/
import Derived.Test.YtniioedflegdkaaAb20
set_option linter.all false
namespace Go.Ab
open Go

/-- Slots may be forgotten. -/
theorem Weak.forget {st : AS} {env : Nat → V} (h : ∀ i, env i = st.env i ∨ env i = .junk) : Weak st ⟨env, st.mem⟩ := fun N w0 im β a w hr => by
  refine ⟨im, β, hr.size, hr.defers, fun i => ?_, hr.mem⟩
  rcases h i with e | e
  · simp only [e]; exact hr.env i
  · simp only [e]; trivial

/-- The slots that are named; all others are forgotten. -/
def envOf : List (Nat × V) → Nat → V
  | [], _ => .junk
  | (i, v) :: r, j => if j = i then v else envOf r j

/-- One may go on from a state in which just these slots are known. -/
def Fits (env : Nat → V) : List (Nat × V) → Prop
  | [] => True
  | (i, v) :: r => env i = v ∧ Fits env r
theorem Fits.get {env : Nat → V} : ∀ {l : List (Nat × V)}, Fits env l → ∀ i, envOf l i = env i ∨ envOf l i = .junk
  | [], _, _ => .inr rfl
  | (j, v) :: r, h, i => by
    simp only [envOf]
    split
    · rename_i e; subst e; exact .inl h.1.symm
    · exact Fits.get h.2 i
theorem Weak.fits {env : Nat → V} {mem : Nat → Option Obj} {l : List (Nat × V)} (h : Fits env l) : Weak ⟨env, mem⟩ ⟨envOf l, mem⟩ := Weak.forget (st := ⟨env, mem⟩) h.get

theorem thenQ_mono {K : AS → Prop} {K' : AS → Prop} {Q Q' : Exit → AS → Prop} (hk : ∀ s, K s → K' s) (h : ∀ e s, Q e s → Q' e s) : ∀ e s, thenQ K Q e s → thenQ K' Q' e s
  | .normal, s, q => hk s q
  | .exit _, s, q => h _ s q
  | .ret, s, q => h _ s q
  | .panic _, s, q => h _ s q
  | .goto _, s, q => h _ s q
  | .outgrown, s, q => h _ s q
theorem awp_mono {Γ : FuncId → Spec} : ∀ {c : SC} {Q Q' : Exit → AS → Prop} {st : AS}, (∀ e s, Q e s → Q' e s) → awp Γ c Q st → awp Γ c Q' st
  | .skip, _, _, _, h, q => h _ _ q
  | .reg _, _, _, _, h, q => by obtain ⟨s, h1, h2⟩ := q; exact ⟨s, h1, h _ _ h2⟩
  | .regD _ _, _, _, _, h, q => by obtain ⟨⟨s, h1, h2⟩, h3⟩ := q; exact ⟨⟨s, h1, h _ _ h2⟩, h3⟩
  | .seq x y, _, _, _, h, q => by
    simp only [awp] at q ⊢
    exact awp_mono (thenQ_mono (fun s hs => awp_mono h hs) h) q
  | .cond c t e, Q, Q', st, h, q => by
    simp only [awp] at q ⊢
    split at q
    · exact ⟨fun hb => awp_mono h (q.1 hb), fun hb => awp_mono h (q.2 hb)⟩
    · exact ⟨awp_mono h q.1, awp_mono h q.2⟩
    · exact q.elim
  | .block id c, Q, Q', st, h, q => by
    simp only [awp] at q ⊢
    refine awp_mono (fun e s hs => ?_) q
    cases e with
    | exit i =>
      simp only [blockQ] at hs ⊢
      split at hs
      · rename_i hi; rw [if_pos hi]; exact h _ _ hs
      · rename_i hi; rw [if_neg hi]; exact h _ _ hs
    | _ => exact h _ _ hs
  | .loop c, _, _, _, h, q => by
    simp only [awp] at q ⊢
    obtain ⟨I, n0, s0, h1, h2, h3⟩ := q
    exact ⟨I, n0, s0, h1, h2, fun n s hi => awp_mono (thenQ_mono (fun _ hs => hs) h) (h3 n s hi)⟩
  | .exit _, _, _, _, h, q => h _ _ q
  | .ret, _, _, _, h, q => h _ _ q
  | .bad, _, _, _, _, q => q.elim

/-- A loop over data x of any kind: the slots live at its head are 'live x', memory 'mem x'; each round comes back at x' that are nearer to the end, or goes out. -/
theorem awp_loop {Γ : FuncId → Spec} {c : SC} {Q : Exit → AS → Prop} {α : Type} (live : α → List (Nat × V)) (mem : α → Nat → Option Obj) (meas : α → Nat) (x0 : α) (inv : α → Prop) {env : Nat → V} {m : Nat → Option Obj}
    (h0 : inv x0) (hm : m = mem x0) (he : Fits env (live x0))
    (h : ∀ x, inv x → awp Γ c (thenQ (fun s' => ∃ x', inv x' ∧ meas x' < meas x ∧ s'.mem = mem x' ∧ Fits s'.env (live x')) Q) ⟨envOf (live x), mem x⟩) :
    awp Γ (.loop c) Q ⟨env, m⟩ := by
  subst hm
  refine ⟨fun n s => ∃ x, inv x ∧ meas x = n ∧ s = ⟨envOf (live x), mem x⟩, meas x0, ⟨envOf (live x0), mem x0⟩, Weak.fits he, ⟨x0, h0, rfl, rfl⟩, ?_⟩
  rintro n s ⟨x, hx, rfl, rfl⟩
  have := h x hx
  refine awp_mono ?_ this
  intro e s' hs'
  cases e with
  | normal =>
    obtain ⟨x', h1, h2, h3, h4⟩ := hs'
    refine ⟨⟨envOf (live x'), mem x'⟩, meas x', ?_, h2, x', h1, rfl, rfl⟩
    obtain ⟨env', m'⟩ := s'
    simp only at h3 h4
    subst h3
    exact Weak.fits h4
  | _ => exact hs'

end Go.Ab
