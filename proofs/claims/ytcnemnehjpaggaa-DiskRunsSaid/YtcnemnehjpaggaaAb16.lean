/- What an operation reads, and writes, of memory; two that have nothing in common may change places. -/
import Derived.Test.YtcnemnehjpaggaaAb18
set_option linter.all false
namespace Go.Ab
open Go

def Agr (L : List Nat) (m m' : Nat → Option Obj) : Prop := ∀ l ∈ L, m' l = m l

theorem Agr.mono {L L' : List Nat} {m m' : Nat → Option Obj} (h : Agr L m m') (hs : ∀ l ∈ L', l ∈ L) : Agr L' m m' := fun l hl => h l (hs l hl)
theorem Agr.upd {L : List Nat} {m m' : Nat → Option Obj} (h : Agr L m m') (l : Nat) (o : Option Obj) : Agr L (upd m l o) (upd m' l o) := fun x hx => by
  simp only [Ab.upd]
  split
  · rfl
  · exact h x hx

theorem ownRows_agr {m m' : Nat → Option Obj} {l n : Nat} (h : m' l = m l) : ownRows m' l n = ownRows m l n := by
  unfold ownRows; rw [h]
theorem argC_agr {m m' : Nat → Option Obj} {x : C} (h : Agr (locC x) m m') : argC m' x = argC m x := by
  cases x with
  | s x => rfl
  | ptr l o => simp only [argC]; rw [h l (by simp [locC])]
  | own l n => simp only [argC]; rw [ownRows_agr (h l (by simp [locC]))]
  | optr l n i o => rfl
theorem argCs_agr {m m' : Nat → Option Obj} : ∀ {xs : List C}, Agr (xs.flatMap locC) m m' → argCs m' xs = argCs m xs
  | [], _ => rfl
  | x :: r, h => by
    simp only [argCs]
    rw [argC_agr (h.mono (by simp; intro l hl; exact .inl hl)), argCs_agr (h.mono (by simp only [List.flatMap_cons, List.mem_append]; intro l hl; exact .inr hl))]
theorem argV_agr {m m' : Nat → Option Obj} {x : V} (h : Agr (locV x) m m') : argV m' x = argV m x := by
  cases x with
  | c x => simp only [argV]; rw [argC_agr h]
  | agg xs => simp only [argV]; rw [argCs_agr h]
  | _ => rfl
theorem argVs_agr {m m' : Nat → Option Obj} : ∀ {xs : List V}, Agr (xs.flatMap locV) m m' → argVs m' xs = argVs m xs
  | [], _ => rfl
  | x :: r, h => by
    simp only [argVs]
    rw [argV_agr (h.mono (by simp only [List.flatMap_cons, List.mem_append]; intro l hl; exact .inl hl)), argVs_agr (h.mono (by simp only [List.flatMap_cons, List.mem_append]; intro l hl; exact .inr hl))]
theorem sealL_agr {m m' : Nat → Option Obj} : ∀ {L : List Nat}, Agr L m m' → sealL m' L = sealL m L
  | [], _ => rfl
  | l :: r, h => by
    simp only [sealL]
    rw [h l (by simp), sealL_agr (h.mono (by simp; intro x hx; exact .inr hx))]
theorem sealL_keys {m : Nat → Option Obj} : ∀ {L : List Nat}, ∀ p ∈ sealL m L, p.1 ∈ L
  | [], p, hp => by simp [sealL] at hp
  | l :: r, p, hp => by
    simp only [sealL] at hp
    split at hp
    · rcases List.mem_cons.1 hp with e | e
      · subst e; simp
      · exact List.mem_cons_of_mem _ (sealL_keys p e)
    · exact List.mem_cons_of_mem _ (sealL_keys p hp)
theorem rowsOf_agr {str : Bool} {m m' : Nat → Option Obj} {k : Nat} {x : V} (h : Agr (locV x) m m') : rowsOf str m' k x = rowsOf str m k x := by
  unfold rowsOf
  split
  · rfl
  · rw [ownRows_agr (h _ (by simp [locV, locC]))]
  · rfl
  · rfl

/-- What the operation did, it does in any memory that is alike where it looks; and it writes there alone. -/
def Local (L : List Nat) (m' : Nat → Option Obj) (r r' : Out) : Prop := ∀ v ups, r = some (v, ups) → r' = some (v, ups) ∧ ∀ p ∈ ups, p.1 ∈ L

theorem Local.same {L : List Nat} {m' : Nat → Option Obj} {r r' : Out} (h : r' = r) (hu : ∀ v ups, r = some (v, ups) → ups = []) : Local L m' r r' := fun v ups e => by
  have := hu v ups e; subst this
  exact ⟨by rw [h, e], by simp⟩

theorem callR_local {Γ : FuncId → Spec} {f : FuncId} {d : Nat} {m m' : Nat → Option Obj} {vals : List V} {L : List Nat} (hL : ∀ l ∈ vals.flatMap locV, l ∈ L) (hd : d ∈ L) (h : Agr L m m') : Local L m' (callR Γ f d m vals) (callR Γ f d m' vals) := by
  intro v ups e
  have hA := h.mono hL
  have key : callR Γ f d m' vals = callR Γ f d m vals := by
    unfold callR
    rw [argVs_agr hA, sealL_agr hA]
    have : ∀ r, resV d m' r = resV d m r := by
      intro r
      cases r with
      | v x => rfl
      | fresh k rows => simp only [resV]; rw [h d hd]
    simp only [this]
  refine ⟨by rw [key, e], ?_⟩
  unfold callR at e
  split at e
  · split at e
    · rename_i r hr
      split at e
      · rename_i v' u' hres
        have hk : ∀ p ∈ u', p.1 ∈ L := by
          cases r with
          | v x => simp only [resV, Option.some.injEq, Prod.mk.injEq] at hres; rw [← hres.2]; simp
          | fresh k rows =>
            simp only [resV] at hres
            split at hres
            · simp only [Option.some.injEq, Prod.mk.injEq] at hres; rw [← hres.2]; simp; exact hd
            · cases hres
        split at e
        · simp only [Option.some.injEq, Prod.mk.injEq] at e; rw [← e.2]; exact hk
        · simp only [Option.some.injEq, Prod.mk.injEq] at e; rw [← e.2]
          intro p hp
          rcases List.mem_append.1 hp with q | q
          · exact hL _ (sealL_keys p q)
          · exact hk p q
      · cases e
    · cases e
  · cases e

theorem capVs_local : ∀ {vals : List V} {m m' : Nat → Option Obj} {L : List Nat}, (∀ l ∈ vals.flatMap locV, l ∈ L) → Agr L m m' → ∀ p, capVs m vals = some p → capVs m' vals = some p ∧ ∀ q ∈ p.2, q.1 ∈ L
  | [], m, m', L, _, _, p, e => by
    simp only [capVs, Option.some.injEq] at e; subst e
    exact ⟨rfl, by simp⟩
  | x :: r, m, m', L, hL, h, p, e => by
    have hr : ∀ l ∈ r.flatMap locV, l ∈ L := fun l hl => hL l (by simp only [List.flatMap_cons, List.mem_append]; exact .inr hl)
    unfold capVs at e
    split at e
    · rename_i heq; cases heq
    · rename_i heq
      cases heq
      split at e
      · rename_i q hq
        obtain ⟨h1, h2⟩ := capVs_local hr h q hq
        simp only [Option.some.injEq] at e; subst e
        exact ⟨by simp only [capVs]; rw [h1], h2⟩
      · cases e
    · rename_i l r' heq
      cases heq
      have hl : l ∈ L := hL l (by simp [locV, locC])
      split at e
      · rename_i cells hm
        split at e
        · rename_i ss hss
          split at e
          · rename_i q hq
            obtain ⟨h1, h2⟩ := capVs_local hr (h.upd l (some (.sbox ss))) q hq
            simp only [Option.some.injEq] at e; subst e
            refine ⟨?_, ?_⟩
            · simp only [capVs]; rw [h l hl, hm]; simp only [hss]; rw [h1]
            · intro z hz
              rcases List.mem_cons.1 hz with e' | e'
              · subst e'; exact hl
              · exact h2 z e'
          · cases e
        · cases e
      · rename_i ss hm
        split at e
        · rename_i q hq
          obtain ⟨h1, h2⟩ := capVs_local hr h q hq
          simp only [Option.some.injEq] at e; subst e
          refine ⟨?_, h2⟩
          simp only [capVs]; rw [h l hl, hm]; simp only []; rw [h1]
        · cases e
      · cases e
    · cases e

theorem pure_same {Γ : FuncId → Spec} {d : Nat} {m m' : Nat → Option Obj} {k : K} {vals : List V} {L : List Nat} (hk : pureK k = true) (h : run Γ d m' k vals = run Γ d m k vals) : Local L m' (run Γ d m k vals) (run Γ d m' k vals) :=
  Local.same h fun _ _ e => ups_nil e hk

theorem run_local {Γ : FuncId → Spec} {d : Nat} {m m' : Nat → Option Obj} {k : K} {vals : List V} {L : List Nat} (hv : touches k = true → ∀ l ∈ vals.flatMap locV, l ∈ L) (hd : usesD k = true → d ∈ L) (h : Agr L m m') :
    Local L m' (run Γ d m k vals) (run Γ d m' k vals) := by
  cases k with
  | mv => exact pure_same rfl rfl
  | pick => exact pure_same rfl rfl
  | not => exact pure_same rfl rfl
  | bin op => exact pure_same rfl rfl
  | eqA neg tags => exact pure_same rfl rfl
  | eqB neg => exact pure_same rfl rfl
  | isNil neg => exact pure_same rfl rfl
  | conv k => exact pure_same rfl rfl
  | same => exact pure_same rfl rfl
  | idx => exact pure_same rfl rfl
  | fld off n agg => exact pure_same rfl rfl
  | ext i => exact pure_same rfl rfl
  | slcS lo hi => exact pure_same rfl rfl
  | slcL k lo hi mx => exact pure_same rfl rfl
  | iadrP n k => exact pure_same rfl rfl
  | build zero at_ => exact pure_same rfl rfl
  | nilchk => exact pure_same rfl rfl
  | mnx isMax => exact pure_same rfl rfl
  | idxA k agg => exact Local.same rfl fun _ _ e => by simp [run] at e
  | toBytes => exact Local.same rfl fun _ _ e => by simp [run] at e
  | bad why => exact Local.same rfl fun _ _ e => by simp [run] at e
  | mks k bytes zero => exact Local.same rfl fun _ _ e => by simp [run] at e
  | len str =>
    have hA := h.mono (hv rfl)
    refine pure_same rfl ?_
    simp only [run]; unfold runLen; split <;> first | rfl | (rw [ownRows_agr (hA _ (by simp [locV, locC]))])
  | toStr =>
    have hA := h.mono (hv rfl)
    refine pure_same rfl ?_
    simp only [run]; unfold runToStr; split <;> first | rfl | (rw [ownRows_agr (hA _ (by simp [locV, locC]))])
  | fadr off =>
    have hA := h.mono (hv rfl)
    refine pure_same rfl ?_
    simp only [run]; unfold runFadr; split <;> first | rfl | (rw [ownRows_agr (hA _ (by simp [locV, locC]))])
  | iadr k =>
    have hA := h.mono (hv rfl)
    refine pure_same rfl ?_
    simp only [run]; unfold runIadr; split <;> first | rfl | (rw [ownRows_agr (hA _ (by simp [locV, locC]))])
  | load n agg =>
    have hA := h.mono (hv rfl)
    refine pure_same rfl ?_
    simp only [run]; unfold runLoad; split <;> first | rfl | (rw [ownRows_agr (hA _ (by simp [locV, locC]))]) | (rw [hA _ (by simp [locV, locC])])
  | store n agg =>
    have hA := h.mono (hv rfl)
    intro v ups e
    simp only [run] at e ⊢
    unfold runStore at e
    split at e
    · rename_i l o x
      have hl := hA l (by simp [locV, locC])
      have hL := hv rfl l (by simp [locV, locC])
      refine ⟨?_, ?_⟩
      · simp only [runStore]; rw [hl]; exact e
      · split at e
        · split at e
          · simp only [Option.some.injEq, Prod.mk.injEq] at e; rw [← e.2]; simp; exact hL
          · cases e
        · cases e
    · rename_i l len i o x
      have hl := hA l (by simp [locV, locC])
      have hL := hv rfl l (by simp [locV, locC])
      refine ⟨?_, ?_⟩
      · simp only [runStore]; rw [hl]; exact e
      · split at e
        · split at e
          · split at e
            · simp only [Option.some.injEq, Prod.mk.injEq] at e; rw [← e.2]; simp; exact hL
            · cases e
          · cases e
        · cases e
    · cases e
  | alloc zero =>
    have hl := h d (hd rfl)
    intro v ups e
    simp only [run] at e ⊢
    unfold runAlloc at e ⊢
    rw [hl]
    refine ⟨e, ?_⟩
    split at e
    · split at e
      · simp only [Option.some.injEq, Prod.mk.injEq] at e; rw [← e.2]; simp; exact hd rfl
      · cases e
    · cases e
  | box n =>
    have hl := h d (hd rfl)
    intro v ups e
    simp only [run] at e ⊢
    unfold runBox at e ⊢
    rw [hl]
    refine ⟨e, ?_⟩
    split at e
    · split at e
      · split at e
        · simp only [Option.some.injEq, Prod.mk.injEq] at e; rw [← e.2]; simp; exact hd rfl
        · cases e
      · cases e
    · cases e
  | bslice k len zero at_ =>
    have hl := h d (hd rfl)
    intro v ups e
    simp only [run] at e ⊢
    unfold runBslice at e ⊢
    rw [hl]
    refine ⟨e, ?_⟩
    split at e
    · split at e
      · split at e
        · simp only [Option.some.injEq, Prod.mk.injEq] at e; rw [← e.2]; simp
        · split at e
          · simp only [Option.some.injEq, Prod.mk.injEq] at e; rw [← e.2]; simp; exact hd rfl
          · cases e
      · cases e
    · cases e
  | append str k bytes =>
    have hA := h.mono (hv rfl)
    have hl := h d (hd rfl)
    intro v ups e
    simp only [run] at e ⊢
    unfold runAppend at e
    split at e
    · rename_i k' y
      refine ⟨?_, ?_⟩
      · simp only [runAppend]
        rw [hl, rowsOf_agr (hA.mono (by simp [locV, locC]))]
        exact e
      · split at e
        · split at e
          · simp only [Option.some.injEq, Prod.mk.injEq] at e; rw [← e.2]; simp; exact hd rfl
          · cases e
        · cases e
    · rename_i l n y
      have hl' := hA l (by simp [locV, locC])
      have hL := hv rfl l (by simp [locV, locC])
      refine ⟨?_, ?_⟩
      · simp only [runAppend]
        rw [hl', rowsOf_agr (hA.mono (by simp only [List.flatMap_cons, List.mem_append]; intro x hx; exact .inr (.inl hx)))]
        exact e
      · split at e
        · split at e
          · simp only [Option.some.injEq, Prod.mk.injEq] at e; rw [← e.2]; simp; exact hL
          · cases e
        · cases e
    · cases e
  | call f => exact callR_local (hv rfl) (hd rfl) h
  | callv =>
    have hv' := hv rfl
    intro v ups e
    simp only [run] at e ⊢
    unfold runCallv at e
    split at e
    · rename_i f caps vals
      refine callR_local (L := L) ?_ (hd rfl) h v ups e
      intro l hl
      simp only [List.flatMap_append, List.mem_append] at hl
      rcases hl with hl | hl
      · exact hv' l (by simp only [List.flatMap_cons, List.mem_append]; exact .inr hl)
      · simp only [List.mem_flatMap, List.mem_map] at hl
        obtain ⟨_, ⟨_, _, rfl⟩, hl⟩ := hl
        simp [locV, locC] at hl
    · cases e
  | mkfn f =>
    intro v ups e
    simp only [run] at e ⊢
    unfold runMkfn at e ⊢
    split at e
    · rename_i p hp
      obtain ⟨h1, h2⟩ := capVs_local (hv rfl) h p hp
      simp only [Option.some.injEq, Prod.mk.injEq] at e
      rw [h1, ← e.1, ← e.2]
      exact ⟨rfl, h2⟩
    · cases e
  | allocB T =>
    have hl := h d (hd rfl)
    intro v ups e
    simp only [run] at e ⊢
    unfold runAllocB at e ⊢
    rw [hl]
    refine ⟨e, ?_⟩
    split at e
    · split at e
      · simp only [Option.some.injEq, Prod.mk.injEq] at e; rw [← e.2]; simp; exact hd rfl
      · cases e
    · cases e
  | bldByte f T =>
    have hA := h.mono (hv rfl)
    intro v ups e
    simp only [run] at e ⊢
    unfold runBldByte at e
    split at e
    · rename_i l c
      have hl := hA l (by simp [locV, locC])
      have hL := hv rfl l (by simp [locV, locC])
      refine ⟨?_, ?_⟩
      · simp only [runBldByte]; rw [hl]; exact e
      · split at e
        · split at e
          · simp only [Option.some.injEq, Prod.mk.injEq] at e; rw [← e.2]; simp; exact hL
          · cases e
        · cases e
    · cases e
  | bldStr f T =>
    have hA := h.mono (hv rfl)
    intro v ups e
    simp only [run] at e ⊢
    unfold runBldStr at e
    split at e
    · rename_i l c
      have hl := hA l (by simp [locV, locC])
      have hL := hv rfl l (by simp [locV, locC])
      refine ⟨?_, ?_⟩
      · simp only [runBldStr]; rw [hl]; exact e
      · split at e
        · split at e
          · simp only [Option.some.injEq, Prod.mk.injEq] at e; rw [← e.2]; simp; exact hL
          · cases e
        · cases e
    · cases e
  | bldGet f T =>
    have hA := h.mono (hv rfl)
    intro v ups e
    simp only [run] at e ⊢
    unfold runBldGet at e
    split at e
    · rename_i l
      have hl := hA l (by simp [locV, locC])
      have hL := hv rfl l (by simp [locV, locC])
      refine ⟨?_, ?_⟩
      · simp only [runBldGet]; rw [hl]; exact e
      · split at e
        · split at e
          · simp only [Option.some.injEq, Prod.mk.injEq] at e; rw [← e.2]; simp; exact hL
          · cases e
        · cases e
    · cases e

theorem nowrite {Γ : FuncId → Spec} {d : Nat} {m : Nat → Option Obj} {k : K} {vals : List V} {v : V} {ups : List (Nat × Obj)} (hk : writes k = false) (h : run Γ d m k vals = some (v, ups)) : ups = [] := by
  cases k <;> first | (simp [writes] at hk; done) | exact ups_nil h rfl | (simp [run] at h; done)

theorem setAll_out {l : Nat} : ∀ {u : List (Nat × Obj)} {m : Nat → Option Obj}, (∀ p ∈ u, p.1 ≠ l) → setAll m u l = m l
  | [], _, _ => rfl
  | (k, o) :: r, m, h => by
    simp only [setAll]
    rw [setAll_out (fun p hp => h p (by simp [hp]))]
    have := h (k, o) (by simp)
    simp only [upd]
    rw [if_neg (fun e => this e.symm)]
theorem setAll_in {l : Nat} : ∀ {u : List (Nat × Obj)} {m m' : Nat → Option Obj}, ¬ (∀ p ∈ u, p.1 ≠ l) → setAll m u l = setAll m' u l
  | [], _, _, h => absurd (by simp) h
  | (k, o) :: r, m, m', h => by
    simp only [setAll]
    by_cases hr : ∀ p ∈ r, p.1 ≠ l
    · rw [setAll_out hr, setAll_out hr]
      have : k = l := by
        by_cases e : k = l
        · exact e
        · refine absurd (fun p hp => ?_) h
          rcases List.mem_cons.1 hp with q | q
          · subst q; exact e
          · exact hr p q
      simp [upd, this]
    · exact setAll_in (m := upd m k (some o)) (m' := upd m' k (some o)) hr
theorem setAll_comm {a b : List (Nat × Obj)} {m : Nat → Option Obj} (h : ∀ p ∈ a, ∀ q ∈ b, p.1 ≠ q.1) : setAll (setAll m a) b = setAll (setAll m b) a := by
  funext l
  by_cases ha : ∀ p ∈ a, p.1 ≠ l
  · rw [setAll_out (u := a) ha]
    by_cases hb : ∀ p ∈ b, p.1 ≠ l
    · rw [setAll_out hb, setAll_out hb, setAll_out ha]
    · exact setAll_in hb
  · have hb : ∀ p ∈ b, p.1 ≠ l := fun q hq e => ha fun p hp e' => h p hp q hq (e'.trans e.symm)
    rw [setAll_out hb]
    exact setAll_in ha

/-- The locations that an operation looks at, or writes. -/
def locsAt (o : Op1) (st : AS) : List Nat := if want st.env o.guard = some true then opLocs o st else []

def act (Γ : FuncId → Spec) (o : Op1) (st : AS) : Out := match want st.env o.guard with
  | none => none
  | some false => some (.undef, [])
  | some true => run Γ (o.dst.getD 0) st.mem o.kind (o.args.map (ev st.env))
theorem step1_act {Γ : FuncId → Spec} {o : Op1} {st : AS} : step1 Γ o st = (act Γ o st).map fun p => ⟨putD st.env o.dst p.1, setAll st.mem p.2⟩ := by
  unfold step1 act
  split
  · rename_i h; simp [h]
  · rename_i h; simp [h, setAll]
  · rename_i h
    simp only [h]
    cases run Γ (o.dst.getD 0) st.mem o.kind (o.args.map (ev st.env)) <;> rfl

/-- Alike in the slots that an operation names. -/
def EnvAt (o : Op1) (e e' : Nat → V) : Prop := ∀ s ∈ slotsOf o, e' s = e s
theorem EnvAt.args {o : Op1} {e e' : Nat → V} (h : EnvAt o e e') : o.args.map (ev e') = o.args.map (ev e) := by
  apply List.map_congr_left
  intro x hx
  cases x with
  | t i =>
    simp only [ev]
    refine h i ?_
    unfold slotsOf
    refine List.mem_append.2 (.inl (List.mem_filterMap.2 ⟨.t i, hx, rfl⟩))
  | k v => rfl
theorem EnvAt.want {o : Op1} {e e' : Nat → V} (h : EnvAt o e e') : want e' o.guard = want e o.guard := by
  cases hg : o.guard with
  | none => rfl
  | some sb =>
    obtain ⟨s, b⟩ := sb
    simp only [Ab.want]
    rw [h s (by unfold slotsOf; rw [hg]; simp)]
theorem EnvAt.put {o : Op1} {e : Nat → V} {d : Option Nat} {v : V} (h : ∀ i, d = some i → i ∉ slotsOf o) : EnvAt o e (putD e d v) := fun s hs => by
  cases d with
  | none => rfl
  | some i =>
    have : s ≠ i := fun e => h i rfl (e ▸ hs)
    simp [putD, upd, this]

theorem locsAt_env {o : Op1} {e e' : Nat → V} {m m' : Nat → Option Obj} (h : EnvAt o e e') : locsAt o ⟨e', m'⟩ = locsAt o ⟨e, m⟩ := by
  unfold locsAt opLocs
  simp only
  rw [h.want, h.args]

theorem act_local {Γ : FuncId → Spec} {o : Op1} {e e' : Nat → V} {m m' : Nat → Option Obj} {v : V} {ups : List (Nat × Obj)} (h : act Γ o ⟨e, m⟩ = some (v, ups)) (he : EnvAt o e e') (hm : Agr (locsAt o ⟨e, m⟩) m m') :
    act Γ o ⟨e', m'⟩ = some (v, ups) ∧ ∀ p ∈ ups, p.1 ∈ locsAt o ⟨e, m⟩ := by
  unfold act at h ⊢
  simp only at h ⊢
  rw [he.want, he.args]
  split at h
  · cases h
  · rename_i hw
    simp only [Option.some.injEq, Prod.mk.injEq] at h
    rw [← h.1, ← h.2]
    exact ⟨rfl, by simp⟩
  · rename_i hw
    simp only [locsAt, hw, if_true] at hm ⊢
    refine run_local (fun ht l hl => ?_) (fun hd => ?_) hm v ups h
    · simp only [opLocs, ht, if_true, List.mem_append]; exact .inl hl
    · simp only [opLocs, hd, if_true, List.mem_append, List.mem_singleton]; exact .inr trivial

theorem usesD_touches {k : K} (h : usesD k = true) : touches k = true := by cases k <;> simp [usesD] at h <;> rfl
theorem locsAt_none {o : Op1} {st : AS} (h : touches o.kind = false) : locsAt o st = [] := by
  unfold locsAt opLocs
  have : usesD o.kind = false := by
    cases e : usesD o.kind with
    | false => rfl
    | true => rw [usesD_touches e] at h; cases h
  simp [h, this]
theorem act_nowrite {Γ : FuncId → Spec} {o : Op1} {st : AS} {v : V} {ups : List (Nat × Obj)} (hk : writes o.kind = false) (h : act Γ o st = some (v, ups)) : ups = [] := by
  unfold act at h
  split at h
  · cases h
  · simp only [Option.some.injEq, Prod.mk.injEq] at h; exact h.2.symm
  · exact nowrite hk h

theorem clash_spec {x y : Op1} (h : slotClash x y = false) : (∀ d, x.dst = some d → d ∉ slotsOf y ∧ y.dst ≠ some d) ∧ (∀ d, y.dst = some d → d ∉ slotsOf x) := by
  unfold slotClash at h
  rw [Bool.or_eq_false_iff] at h
  refine ⟨fun d hd => ?_, fun d hd => ?_⟩
  · have := h.1
    rw [hd] at this
    simp only [Bool.or_eq_false_iff, beq_eq_false_iff_ne] at this
    exact ⟨fun hm => by simp [hm] at this, this.2⟩
  · have := h.2
    rw [hd] at this
    intro hm
    simp [hm] at this

theorem putD_comm {e : Nat → V} {a b : Option Nat} {x y : V} (h : ∀ d, a = some d → b ≠ some d) : putD (putD e a x) b y = putD (putD e b y) a x := by
  cases a with
  | none => rfl
  | some i =>
    cases b with
    | none => rfl
    | some j =>
      have hne : j ≠ i := fun e => h i rfl (by rw [e])
      funext k
      simp only [putD, upd]
      by_cases h1 : k = j <;> by_cases h2 : k = i <;> simp [h1, h2]
      · exact absurd (h1.symm.trans h2) hne
      · intro e'; exact absurd e' hne
      · intro e'; exact absurd e'.symm hne

/-- Two that have nothing in common may change places. -/
theorem swap {Γ : FuncId → Spec} {x y : Op1} {st st1 st2 : AS} (hx : step1 Γ x st = some st1) (hy : step1 Γ y st1 = some st2) (hc : slotClash x y = false)
    (hm : (touches x.kind && touches y.kind && (writes x.kind || writes y.kind)) = true → apartL (locsAt x st) (locsAt y st1) = true) :
    ∃ st1', step1 Γ y st = some st1' ∧ step1 Γ x st1' = some st2 ∧ locsAt y st = locsAt y st1 ∧ locsAt x st1' = locsAt x st := by
  obtain ⟨c1, c2⟩ := clash_spec hc
  obtain ⟨e, m⟩ := st
  rw [step1_act] at hx hy
  cases hax : act Γ x ⟨e, m⟩ with
  | none => rw [hax] at hx; cases hx
  | some px =>
    obtain ⟨vx, ux⟩ := px
    rw [hax] at hx
    simp only [Option.map_some, Option.some.injEq] at hx; subst hx
    cases hay : act Γ y ⟨putD e x.dst vx, setAll m ux⟩ with
    | none => rw [hay] at hy; cases hy
    | some py =>
      obtain ⟨vy, uy⟩ := py
      rw [hay] at hy
      simp only [Option.map_some, Option.some.injEq] at hy; subst hy
      have ey : EnvAt y (putD e x.dst vx) e := fun s hs => ((EnvAt.put (e := e) (v := vx) (fun i hi => (c1 i hi).1)) s hs).symm
      have ex : EnvAt x e (putD e y.dst vy) := EnvAt.put (fun i hi => c2 i hi)
      have hly : locsAt y ⟨e, m⟩ = locsAt y ⟨putD e x.dst vx, setAll m ux⟩ := locsAt_env ey
      have kx := (act_local hax (fun _ _ => rfl) (fun _ _ => rfl)).2
      have ky := (act_local hay (fun _ _ => rfl) (fun _ _ => rfl)).2
      have both : (∀ p ∈ ux, p.1 ∉ locsAt y ⟨putD e x.dst vx, setAll m ux⟩) ∧ (∀ p ∈ uy, p.1 ∉ locsAt x ⟨e, m⟩) := by
        by_cases hcond : (touches x.kind && touches y.kind && (writes x.kind || writes y.kind)) = true
        · have ha := hm hcond
          unfold apartL at ha
          rw [List.all_eq_true] at ha
          refine ⟨fun p hp hq => ?_, fun p hp hq => ?_⟩
          · have := ha _ (kx p hp); simp [hq] at this
          · have := ha _ hq; simp [ky p hp] at this
        · simp only [Bool.and_eq_true, Bool.or_eq_true, not_and, not_or, Bool.not_eq_true] at hcond
          cases htx : touches x.kind with
          | false =>
            rw [locsAt_none htx] at kx ⊢
            exact ⟨fun p hp => absurd (kx p hp) (by simp), fun p hp => by simp⟩
          | true =>
            cases hty : touches y.kind with
            | false =>
              rw [locsAt_none hty] at ky ⊢
              exact ⟨fun p hp => by simp, fun p hp => absurd (ky p hp) (by simp)⟩
            | true =>
              have := hcond ⟨htx, hty⟩
              rw [act_nowrite this.1 hax, act_nowrite this.2 hay]
              exact ⟨by simp, by simp⟩
      have hmy : Agr (locsAt y ⟨putD e x.dst vx, setAll m ux⟩) (setAll m ux) m := fun l hl => by
        rw [setAll_out]
        intro p hp e'
        exact both.1 p hp (e' ▸ hl)
      have ay := (act_local hay ey hmy).1
      have hmx : Agr (locsAt x ⟨e, m⟩) m (setAll m uy) := fun l hl => by
        rw [setAll_out]
        intro p hp e'
        exact both.2 p hp (e' ▸ hl)
      have ax := (act_local hax ex hmx).1
      refine ⟨⟨putD e y.dst vy, setAll m uy⟩, ?_, ?_, hly, locsAt_env ex⟩
      · rw [step1_act, ay]; rfl
      · rw [step1_act, ax]
        simp only [Option.map_some, Option.some.injEq, AS.mk.injEq]
        refine ⟨putD_comm (fun d hd hx' => (c1 d hx').2 hd), ?_⟩
        exact setAll_comm (fun p hp q hq e' => both.2 p hp (e' ▸ kx q hq))

/-! ### A drawn order -/
/-- The operations of some places, one behind the other; T: what each looks at, or writes. -/
def Run (Γ : FuncId → Spec) (l : List Op1) (T : Nat → List Nat) : List Nat → AS → AS → Prop
  | [], st, st' => st = st'
  | j :: r, st, st' => ∃ o st1, l[j]? = some o ∧ step1 Γ o st = some st1 ∧ locsAt o st = T j ∧ Run Γ l T r st1 st'

def Apt (l : List Op1) (T : Nat → List Nat) (j i : Nat) : Prop := clash2 l (j, i) = false ∧ (mem2 l (j, i) = true → apartL (T j) (T i) = true)

theorem Run.front {Γ : FuncId → Spec} {l : List Op1} {T : Nat → List Nat} {i : Nat} {post : List Nat} {st' : AS} : ∀ {pre : List Nat} {st : AS}, (∀ j ∈ pre, Apt l T j i) → Run Γ l T (pre ++ i :: post) st st' → Run Γ l T (i :: (pre ++ post)) st st'
  | [], _, _, h => h
  | j :: pre, st, ha, h => by
    obtain ⟨x, st1, hj, hx, tx, hr⟩ := h
    obtain ⟨y, st2, hi, hy, ty, hr'⟩ := Run.front (fun k hk => ha k (by simp [hk])) hr
    obtain ⟨hc, hm⟩ := ha j (by simp)
    simp only [clash2, mem2, hj, hi] at hc hm
    obtain ⟨s, s1, s2, s3, s4⟩ := swap hx hy hc (fun q => by rw [tx, ty]; exact hm q)
    exact ⟨y, s, hi, s1, by rw [s3, ty], x, st2, hj, s2, by rw [s4, tx], hr'⟩

theorem Run.of_steps {Γ : FuncId → Spec} {l : List Op1} {T : Nat → List Nat} {st' : AS} : ∀ (r : List Op1) (k : Nat) (st : AS), l.drop k = r → steps Γ r st = some st' → (∀ i, T (k + i) = (trace Γ r st).getD i []) → Run Γ l T (List.range' k r.length) st st'
  | [], k, st, _, hs, _ => by
    simp only [steps, Option.some.injEq] at hs
    simpa [Run] using hs
  | o :: r, k, st, hd, hs, hT => by
    simp only [steps] at hs
    split at hs
    · rename_i st1 h1
      have hk : l[k]? = some o := by
        have := congrArg (fun x => x[0]?) hd
        simpa using this
      have hd' : l.drop (k + 1) = r := by
        rw [← List.tail_drop, hd]; rfl
      have ht : trace Γ (o :: r) st = locsAt o st :: trace Γ r st1 := by
        simp only [trace, h1]; rfl
      refine ⟨o, st1, hk, h1, ?_, ?_⟩
      · have := hT 0; rw [ht] at this; simpa using this.symm
      · refine Run.of_steps r (k + 1) st1 hd' hs fun i => ?_
        have := hT (i + 1)
        rw [ht] at this
        rw [show k + 1 + i = k + (i + 1) by omega, this]
        simp
    · cases hs

section
variable {P : Program} {N : Nat} {w0 : W0}

def Closed (ops : Array Oper) (listed : Array Bool) : Prop := ∀ j oj, ops[j]? = some oj → listed.getD j false = true → ∀ e ∈ oj.after, Region.binds .any e = true → listed.getD e.on false = true

theorem edges_spec {ops : Array Oper} {b : Array Nat} (h : edgesOk ops b = true) {i : Nat} {o : Oper} (hi : ops[i]? = some o) :
    (∀ e ∈ o.after, Region.binds .any e = true → e.on < i) ∧ ∀ j < i, (b.getD i 0).testBit j = true → ∃ e ∈ o.after, Region.binds .any e = true ∧ (e.on = j ∨ (j < e.on ∧ (b.getD e.on 0).testBit j = true)) := by
  have hlt : i < ops.size := (Array.getElem?_eq_some_iff.1 hi).1
  unfold edgesOk at h
  rw [List.all_eq_true] at h
  have := h i (List.mem_range.2 hlt)
  rw [hi] at this
  simp only [Bool.and_eq_true, List.all_eq_true, Bool.or_eq_true, Bool.not_eq_true', decide_eq_true_eq, List.mem_range, List.any_eq_true, beq_iff_eq] at this
  refine ⟨fun e he hb => ?_, fun j hj hbit => ?_⟩
  · rcases this.1 e (by simpa using he) with q | q
    · rw [q] at hb; cases hb
    · exact q
  · rcases this.2 j hj with q | ⟨e, he, hb, q⟩
    · rw [q] at hbit; cases hbit
    · exact ⟨e, by simpa using he, hb, q⟩

theorem ahead_listed {ops : Array Oper} {b : Array Nat} (h : edgesOk ops b = true) {listed : Array Bool} (hc : Closed ops listed) : ∀ (i : Nat) (o : Oper), ops[i]? = some o →
    (∀ e ∈ o.after, Region.binds .any e = true → listed.getD e.on false = true) → ∀ j < i, (b.getD i 0).testBit j = true → listed.getD j false = true := by
  intro i
  induction i using Nat.strongRecOn with
  | _ i ih =>
    intro o hi ha j hj hbit
    obtain ⟨h1, h2⟩ := edges_spec h hi
    obtain ⟨e, he, hb, q⟩ := h2 j hj hbit
    rcases q with q | ⟨q1, q2⟩
    · rw [← q]; exact ha e he hb
    · have hlt := h1 e he hb
      have hle : e.on < ops.size := Nat.lt_trans hlt (Array.getElem?_eq_some_iff.1 hi).1
      obtain ⟨oe, hoe⟩ : ∃ oe, ops[e.on]? = some oe := ⟨_, Array.getElem?_eq_getElem hle⟩
      exact ih e.on hlt oe hoe (hc e.on oe hoe (ha e he hb)) j q1 q2

theorem mem_pairsTo {n j i : Nat} (hj : j < i) (hi : i < n) : (j, i) ∈ pairsTo n := by
  unfold pairsTo
  exact List.mem_flatMap.2 ⟨i, List.mem_range.2 hi, List.mem_map.2 ⟨j, List.mem_range.2 hj, rfl⟩⟩

theorem set_get {listed : Array Bool} {i j : Nat} : (listed.setIfInBounds i true).getD j true = if j = i then true else listed.getD j true := by
  by_cases e : j = i
  · subst e
    by_cases hlt : j < listed.size
    · simp [hlt]
    · simp [Array.getElem?_eq_none (Nat.not_lt.1 hlt), hlt]
  · rw [if_neg e, getD_set_ne true (fun q => e q.symm)]

/-- The places that are not yet listed. -/
def left (n : Nat) (listed : Array Bool) : List Nat := (List.range n).filter fun j => !listed.getD j true

theorem left_split {n i : Nat} {listed : Array Bool} (hi : i < n) (hu : listed.getD i true = false) :
    ∃ pre post, left n listed = pre ++ i :: post ∧ left n (listed.setIfInBounds i true) = pre ++ post ∧ (∀ j ∈ pre, j < i ∧ listed.getD j true = false) := by
  refine ⟨(List.range i).filter (fun j => !listed.getD j true), (List.range' (i + 1) (n - (i + 1))).filter (fun j => !listed.getD j true), ?_, ?_, ?_⟩
  · have hr : List.range n = List.range i ++ i :: List.range' (i + 1) (n - (i + 1)) := by
      rw [List.range_eq_range', List.range_eq_range']
      have h1 : List.range' 0 n = List.range' 0 i ++ List.range' (0 + i) (n - i) := by
        rw [List.range'_append_1]; congr 1; omega
      rw [h1, Nat.zero_add]
      congr 1
      rw [show n - i = (n - (i + 1)) + 1 by omega, List.range'_succ]
    unfold left
    rw [hr, List.filter_append, List.filter_cons]
    simp [hu]
  · have hr : List.range n = List.range i ++ i :: List.range' (i + 1) (n - (i + 1)) := by
      rw [List.range_eq_range', List.range_eq_range']
      have h1 : List.range' 0 n = List.range' 0 i ++ List.range' (0 + i) (n - i) := by
        rw [List.range'_append_1]; congr 1; omega
      rw [h1, Nat.zero_add]
      congr 1
      rw [show n - i = (n - (i + 1)) + 1 by omega, List.range'_succ]
    unfold left
    rw [hr, List.filter_append, List.filter_cons]
    have e1 : (!(listed.setIfInBounds i true).getD i true) = false := by rw [set_get]; simp
    rw [e1]
    simp only [Bool.false_eq_true, if_false]
    congr 1
    · apply List.filter_congr
      intro j hj
      rw [set_get, if_neg (by have := List.mem_range.1 hj; omega)]
    · apply List.filter_congr
      intro j hj
      rw [set_get, if_neg (by have := List.mem_range'_1.1 hj; omega)]
  · intro j hj
    have := List.mem_filter.1 hj
    exact ⟨List.mem_range.1 this.1, by simpa using this.2⟩

theorem any_ok {Γ : FuncId → Spec} (hΓ : ∀ f, Contract P f (Γ f)) (hB : BldOK P) {ops : Array Oper} {T : Nat → List Nat} {stf : AS} {Q : Exit → Act → World → Prop}
    (hN : ops.toList.all (dstOk N) = true) (hE : edgesOk ops (ahead ops) = true)
    (hA : ∀ j i, j < i → i < ops.size → isOpen (ahead ops) (j, i) = true → Apt (ops.toList.map (cOper P ops)) T j i)
    (hQ : ∀ a' w' im' β', Rel N w0 im' β' stf a' w' → Q .normal a' w') :
    ∀ (fuel : Nat) (listed : Array Bool) (st : AS) (a : Act) (w : World) (im : Nat → Prop) (β : Nat → BI), listed.size = ops.size → fuel = (left ops.size listed).length → Closed ops listed → Rel N w0 im β st a w →
      Run Γ (ops.toList.map (cOper P ops)) T (left ops.size listed) st stf → wpAny P .any ops Q fuel listed a w := by
  intro fuel
  induction fuel with
  | zero =>
    intro listed st a w im β hsz hf hc hr hrun
    have hnil : left ops.size listed = [] := List.length_eq_zero_iff.1 hf.symm
    refine ⟨?_, ?_⟩
    · rw [List.eq_nil_iff_forall_not_mem]
      intro i hi
      obtain ⟨hu, o, ho, -⟩ := mem_ready.1 hi
      have : i ∈ left ops.size listed := List.mem_filter.2 ⟨List.mem_range.2 (Array.getElem?_eq_some_iff.1 ho).1, by simp [hu]⟩
      rw [hnil] at this; simp at this
    · rw [hnil] at hrun
      simp only [Run] at hrun
      subst hrun
      exact hQ _ _ _ _ hr
  | succ fuel ih =>
    intro listed st a w im β hsz hf hc hr hrun
    refine ⟨?_, ?_⟩
    · intro hnil
      exfalso
      -- the first that is not listed is ready
      have hne : left ops.size listed ≠ [] := fun e => by rw [e] at hf; simp at hf
      obtain ⟨i, r, hir⟩ : ∃ i r, left ops.size listed = i :: r := by
        cases hl : left ops.size listed with
        | nil => exact absurd hl hne
        | cons i r => exact ⟨i, r, rfl⟩
      have hex : ∃ i, i < ops.size ∧ listed.getD i true = false := by
        have : i ∈ left ops.size listed := by rw [hir]; simp
        have := List.mem_filter.1 this
        exact ⟨i, List.mem_range.1 this.1, by simpa using this.2⟩
      have hmin : ∀ n, (∃ i, i < n ∧ i < ops.size ∧ listed.getD i true = false) → ∃ i, i < ops.size ∧ listed.getD i true = false ∧ ∀ j < i, listed.getD j true = true := by
        intro n
        induction n with
        | zero => rintro ⟨i, h, -⟩; omega
        | succ n ihn =>
          rintro ⟨i, h, h2, h3⟩
          by_cases hx : ∃ i, i < n ∧ i < ops.size ∧ listed.getD i true = false
          · exact ihn hx
          · have hin : i = n := by
              by_cases e : i = n
              · exact e
              · exact absurd ⟨i, by omega, h2, h3⟩ hx
            refine ⟨i, h2, h3, fun j hj => ?_⟩
            cases hb : listed.getD j true with
            | true => rfl
            | false => exact absurd ⟨j, by omega, by omega, hb⟩ hx
      obtain ⟨i, hi, hu, hlow⟩ := hmin ops.size (by obtain ⟨i, h1, h2⟩ := hex; exact ⟨i, h1, h1, h2⟩)
      obtain ⟨o, ho⟩ : ∃ o, ops[i]? = some o := ⟨_, Array.getElem?_eq_getElem hi⟩
      have : i ∈ Region.ready .any ops listed := mem_ready.2 ⟨hu, o, ho, fun e he hb => by
        have hlt := (edges_spec hE ho).1 e he hb
        have h1 := hlow e.on hlt
        have h2 : e.on < listed.size := by omega
        rw [Array.getD_eq_getD_getElem?, Array.getElem?_eq_getElem h2] at h1 ⊢
        simpa using h1⟩
      rw [hnil] at this; simp at this
    · intro i hi
      obtain ⟨hu, o, ho, haft⟩ := mem_ready.1 hi
      have hlt : i < ops.size := (Array.getElem?_eq_some_iff.1 ho).1
      obtain ⟨pre, post, e1, e2, e3⟩ := left_split hlt hu
      rw [e1] at hrun
      have hpre : ∀ j ∈ pre, Apt (ops.toList.map (cOper P ops)) T j i := fun j hj => by
        obtain ⟨h1, h2⟩ := e3 j hj
        refine hA j i h1 hlt ?_
        unfold isOpen
        cases hb : ((ahead ops).getD i 0).testBit j with
        | false => rfl
        | true =>
          have hl := ahead_listed hE hc i o ho haft j h1 hb
          have h3 : j < listed.size := by omega
          rw [Array.getD_eq_getD_getElem?, Array.getElem?_eq_getElem h3] at hl h2
          simp only [Option.getD_some] at hl h2
          rw [hl] at h2; cases h2
      obtain ⟨y, st1, hy, hs, -, hrest⟩ := Run.front hpre hrun
      have hy' : y = cOper P ops o := by
        rw [List.getElem?_map, Array.getElem?_toList, ho] at hy
        simpa using hy.symm
      subst hy'
      have hNo : dstOk N o = true := by
        rw [List.all_eq_true] at hN
        exact hN o (by rw [← Array.getElem?_toList] at ho; exact List.mem_of_getElem? ho)
      unfold wpOp
      rw [ho]
      simp only
      have key := step_ok hΓ hB hr (ops := ops) (o := o) (st' := st1) hNo hs (next := wpAny P .any ops Q fuel (listed.setIfInBounds i true)) (Q := Q) (fun a' w' im' β' h' => by
        refine ih _ st1 a' w' im' β' (by simpa using hsz) ?_ ?_ h' ?_
        · rw [e1] at hf
          rw [e2]
          simp only [List.length_append, List.length_cons] at hf ⊢
          omega
        · intro j oj hj hlj e he hb
          by_cases hji : j = i
          · subst hji
            rw [ho] at hj
            simp only [Option.some.injEq] at hj; subst hj
            exact getD_set_true (haft e he hb)
          · have : listed.getD j false = true := by
              rw [← hlj, getD_set_ne false (fun q => hji q.symm)]
            exact getD_set_true (hc j oj hj this e he hb)
        · rw [e2]; exact hrest)
      split at key
      · rename_i hw; rw [if_pos hw]; exact .inl key
      · rename_i hw; rw [if_neg hw]; exact key

theorem Rel.drawn {im : Nat → Prop} {β : Nat → BI} {st : AS} {a : Act} {w : World} (h : Rel N w0 im β st a w) : Rel N w0 im β st a { w with drawn := w.drawn + 1 } := by
  have he : Ext im im w { w with drawn := w.drawn + 1 } β β st.mem st.mem := ⟨fun _ q => q, fun _ _ => rfl, fun _ q => ⟨q, rfl⟩, fun _ _ rows q => ⟨rows, q, Nat.le_refl _, fun _ => ⟨rfl, rfl⟩⟩⟩
  exact ⟨h.size, h.defers, fun i => RV.ext he _ _ (h.env i), fun l o hl => RObj.ext he hl rfl (fun _ _ => rfl) (h.mem.obj l o hl), h.mem.dis, h.mem.own, h.mem.iml,
    ⟨h.mem.below.os, h.mem.below.tape, h.mem.below.output, h.mem.below.size, h.mem.below.block⟩, h.mem.old⟩

theorem drawOK (hm : P.follows .mixedOrders = true) : DrawOK P := by
  intro N w0 Γ hΓ hB id ops ps Q st st' hN hps hs hq hp im β a w R hr hR
  refine wp_region_any hm ?_
  unfold openPairs at hps
  split at hps
  · rename_i hcond
    simp only [Bool.and_eq_true] at hcond
    simp only [Option.some.injEq] at hps
    have hlen : (ops.toList.map (cOper P ops)).length = ops.size := by simp
    have hleft : left ops.size (Array.replicate ops.size false) = List.range' 0 ops.size := by
      unfold left
      rw [← List.range_eq_range', List.filter_eq_self]
      intro j hj
      have := List.mem_range.1 hj
      simp [this]
    have hr' : Rel N w0 im β st a { w with drawn := w.drawn + 1 } := hr.drawn
    refine any_ok hΓ hB (T := fun i => (trace Γ (ops.toList.map (cOper P ops)) st).getD i []) (stf := st') hN hcond.1 ?_ (fun a' w' im' β' h' => hR _ _ _ _ _ _ hq h') ops.size _ st a _ im β (by simp) ?_ ?_ hr' ?_
    · intro j i hj hi ho
      have hmem : (j, i) ∈ (pairsTo (ops.toList.map (cOper P ops)).length).filter (isOpen (ahead ops)) := List.mem_filter.2 ⟨mem_pairsTo hj (by rw [hlen]; exact hi), ho⟩
      refine ⟨?_, fun h2 => ?_⟩
      · have := List.all_eq_true.1 hcond.2 _ hmem
        simpa using this
      · have h3 : (j, i) ∈ ps := by rw [← hps]; exact List.mem_filter.2 ⟨hmem, h2⟩
        exact List.all_eq_true.1 hp _ h3
    · rw [hleft]; simp
    · intro j oj hj hl
      by_cases h2 : j < ops.size <;> simp [h2] at hl
    · rw [hleft]
      have := Run.of_steps (Γ := Γ) (l := ops.toList.map (cOper P ops)) (T := fun i => (trace Γ (ops.toList.map (cOper P ops)) st).getD i []) (st' := st') (ops.toList.map (cOper P ops)) 0 st (by simp) hs (fun i => by simp)
      rwa [hlen] at this
  · cases hps
end
end Go.Ab
