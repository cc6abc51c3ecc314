/- One state behind another: things dropped, rows sealed, a nil slice as a row of the frame's own; the loop by that. -/
import Derived.Test.YtniioedflegdkaaAb24
set_option linter.all false
namespace Go.Ab
open Go Go.RowKit

/-- Things of memory, named. -/
def memOf : List (Nat × Obj) → Nat → Option Obj
  | [], _ => none
  | (i, o) :: r, j => if j = i then some o else memOf r j

/-- What a value becomes where the things ks alone are kept: rows that are not kept are sealed. -/
def CFit (m : Nat → Option Obj) (ks : List Nat) : C → C → Prop
  | .s x, .s y => x = y
  | .ptr l o, .ptr l' o' => l = l' ∧ o = o' ∧ l ∈ ks
  | .own l n, .own l' n' => l = l' ∧ n = n' ∧ l ∈ ks
  | .own l n, .s (.list k rows f) => f = false ∧ l ∉ ks ∧ rowOf (m l) = some (k, rows) ∧ n = rows.length
  | .optr l n i o, .optr l' n' i' o' => l = l' ∧ n = n' ∧ i = i' ∧ o = o' ∧ l ∈ ks
  | _, _ => False
def CsFit (m : Nat → Option Obj) (ks : List Nat) : List C → List C → Prop
  | [], [] => True
  | x :: xs, y :: ys => CFit m ks x y ∧ CsFit m ks xs ys
  | _, _ => False
def VFit (m : Nat → Option Obj) (ks : List Nat) : V → V → Prop
  | _, .junk => True
  | .undef, .undef => True
  | .tf, .tf => True
  | .c (.s (.bool _)), .tf => True
  | .c x, .c y => CFit m ks x y
  | .agg xs, .agg ys => CsFit m ks xs ys
  | _, _ => False
def OFit (m : Nat → Option Obj) (ks : List Nat) : Obj → Obj → Prop
  | .box xs, .box ys => CsFit m ks xs ys
  | .row k rows, .row k' rows' => k = k' ∧ rows = rows'
  | .srow k rows, .srow k' rows' => k = k' ∧ rows = rows'
  | .sbox xs, .sbox ys => xs = ys
  | .bld T s, .bld T' s' => T = T' ∧ s = s'
  | _, _ => False
/-- Slots that are named; all others are forgotten. -/
def EnvFit (m : Nat → Option Obj) (ks : List Nat) (env : Nat → V) : List (Nat × V) → Prop
  | [] => True
  | (i, v) :: r => VFit m ks (env i) v ∧ EnvFit m ks env r
def OOFit (m : Nat → Option Obj) (ks : List Nat) : Option Obj → Obj → Prop
  | some o, o' => OFit m ks o o'
  | none, _ => False
def MemFit (m : Nat → Option Obj) (ks : List Nat) : List (Nat × Obj) → Prop
  | [] => True
  | (i, o) :: r => OOFit m ks (m i) o ∧ MemFit m ks r
def Meets (st : AS) (live : List (Nat × V)) (mem : List (Nat × Obj)) : Prop :=
  EnvFit st.mem (mem.map (·.1)) st.env live ∧ MemFit st.mem (mem.map (·.1)) mem

section
variable {im : Nat → Prop} {w : World} {β : Nat → BI} {P : Program} {N : Nat} {w0 : W0} {m : Nat → Option Obj} {ks : List Nat} {mem : List (Nat × Obj)}

/-- What is sealed: the rows that are not kept. -/
def sealIm (im : Nat → Prop) (β : Nat → BI) (m : Nat → Option Obj) (ks : List Nat) : Nat → Prop := fun b => im b ∨ ∃ l, l ∉ ks ∧ (rowOf (m l)).isSome = true ∧ Owns β m l b

theorem memOf_mem {mem : List (Nat × Obj)} {l : Nat} (h : l ∈ mem.map (·.1)) (hf : MemFit m ks mem) : ∃ o o', m l = some o ∧ memOf mem l = some o' ∧ OFit m ks o o' := by
  induction mem with
  | nil => simp at h
  | cons p mem ih =>
    obtain ⟨i, x⟩ := p
    obtain ⟨h1, h2⟩ := hf
    simp only [memOf]
    by_cases e : l = i
    · subst e
      simp only [if_true]
      cases ho : m l with
      | none => simp [OOFit, ho] at h1
      | some o =>
        simp only [OOFit, ho] at h1
        exact ⟨o, x, rfl, rfl, h1⟩
    · rw [if_neg e]
      exact ih (by simpa [e] using h) h2
theorem memOf_not {mem : List (Nat × Obj)} {l : Nat} (h : l ∉ mem.map (·.1)) : memOf mem l = none := by
  induction mem with
  | nil => rfl
  | cons p mem ih =>
    obtain ⟨i, x⟩ := p
    simp only [List.map_cons, List.mem_cons, not_or] at h
    simp only [memOf, if_neg h.1]
    exact ih h.2

theorem OFit.isBox {o o' : Obj} (h : OFit m ks o o') : isBox (some o) = true → Go.Ab.isBox (some o') = true := by
  cases o <;> cases o' <;> simp [OFit, Go.Ab.isBox] at h ⊢
theorem OFit.rowOf {o o' : Obj} (h : OFit m ks o o') : rowOf (some o) = Go.Ab.rowOf (some o') := by
  cases o <;> cases o' <;> simp [OFit, Go.Ab.rowOf] at h ⊢ <;> exact h
theorem OFit.owns {o o' : Obj} {l : Nat} (h : OFit m ks o o') (hl : m l = some o) (hl' : memOf mem l = some o') (b : Nat) : Owns β (memOf mem) l b ↔ Owns β m l b := by
  simp only [Owns, hl, hl']
  cases o <;> cases o' <;> simp [OFit] at h ⊢
theorem OFit.loose {o o' : Obj} (h : OFit m ks o o') : loose o = Go.Ab.loose o' := by
  cases o <;> cases o' <;> simp [OFit, Go.Ab.loose] at h ⊢

variable (hM : MemOK w0 im β m w) (hF : MemFit m (mem.map (·.1)) mem)
include hM hF

theorem CFit.ok {x y : C} {v : Value} (h : CFit m (mem.map (·.1)) x y) (hx : RC im w β m x v) : RC (sealIm im β m (mem.map (·.1))) w β (memOf mem) y v := by
  cases x with
  | s x =>
    cases y with
    | s y =>
      simp only [CFit] at h; subst h
      exact RS.mono (fun b hb => .inl hb) (fun b _ => rfl) _ _ hx
    | _ => simp [CFit] at h
  | ptr l o =>
    cases y with
    | ptr l' o' =>
      obtain ⟨rfl, rfl, hk⟩ := h
      obtain ⟨h1, h2⟩ := hx
      obtain ⟨p, p', e1, e2, e3⟩ := memOf_mem hk hF
      rw [e1] at h1
      exact ⟨by rw [e2]; exact e3.isBox h1, h2⟩
    | _ => simp [CFit] at h
  | own l n =>
    cases y with
    | own l' n' =>
      obtain ⟨rfl, rfl, hk⟩ := h
      obtain ⟨k, rows, h1, h2⟩ := hx
      obtain ⟨p, p', e1, e2, e3⟩ := memOf_mem hk hF
      rw [e1, e3.rowOf] at h1
      exact ⟨k, rows, by rw [e2]; exact h1, h2⟩
    | s y =>
      cases y with
      | list k rows f =>
        obtain ⟨rfl, hk, hr, hn⟩ := h
        obtain ⟨k', rows', h1, h2, h3, h4⟩ := hx
        rw [hr] at h1
        simp only [Option.some.injEq, Prod.mk.injEq] at h1
        obtain ⟨rfl, rfl⟩ := h1
        have hv := h4 hn
        simp only [RC, RS]
        have hobj : ∃ o, m l = some o ∧ (o = .row k rows ∨ o = .srow k rows) := by
          unfold Go.Ab.rowOf at hr
          split at hr
          · rename_i h5; simp only [Option.some.injEq, Prod.mk.injEq] at hr; obtain ⟨rfl, rfl⟩ := hr; exact ⟨_, h5, .inl rfl⟩
          · rename_i h5; simp only [Option.some.injEq, Prod.mk.injEq] at hr; obtain ⟨rfl, rfl⟩ := hr; exact ⟨_, h5, .inr rfl⟩
          · cases hr
        obtain ⟨o, ho, hoo⟩ := hobj
        have hR := hM.obj l o ho
        have hcap : rows.length ≤ (β l).cap := by rcases hoo with rfl | rfl <;> exact hR.1
        refine ⟨(β l).a, (β l).cap, by rw [hv, hn], hcap, by simp, fun hne => ?_⟩
        have hc0 : (β l).cap ≠ 0 := by
          intro e; rw [e] at hcap
          exact hne (List.length_eq_zero_iff.1 (by omega))
        have hb : ∃ b, (β l).a = some ⟨b, 0, none⟩ ∧ RRows im w k b 0 rows := by
          rcases hoo with rfl | rfl
          · rcases hR.2 with h5 | ⟨b, arr, T, h5, _, _, h6⟩
            · exact absurd h5 hc0
            · exact ⟨b, h5, h6⟩
          · rcases hR.2 with h5 | ⟨b, h5, h6⟩
            · exact absurd h5 hc0
            · exact ⟨b, h5, h6⟩
        obtain ⟨b, hb1, hb2⟩ := hb
        have hO : Owns β m l b := by
          simp only [Owns, ho]
          rcases hoo with rfl | rfl <;> exact ⟨hb1, hc0⟩
        exact ⟨b, 0, hb1, .inr ⟨l, hk, by rw [hr]; rfl, hO⟩, RRows.mono (fun b hb => .inl hb) (fun b _ => rfl) k b 0 rows rfl hb2⟩
      | _ => simp [CFit] at h
    | _ => simp [CFit] at h
  | optr l n i o =>
    cases y with
    | optr l' n' i' o' =>
      obtain ⟨rfl, rfl, rfl, rfl, hk⟩ := h
      obtain ⟨k, rows, h1, h2⟩ := hx
      obtain ⟨p, p', e1, e2, e3⟩ := memOf_mem hk hF
      rw [e1, e3.rowOf] at h1
      exact ⟨k, rows, by rw [e2]; exact h1, h2⟩
    | _ => simp [CFit] at h

theorem CsFit.ok : ∀ {xs ys : List C} {vs : List Value}, CsFit m (mem.map (·.1)) xs ys → RCs im w β m xs vs → RCs (sealIm im β m (mem.map (·.1))) w β (memOf mem) ys vs
  | [], [], [], _, _ => trivial
  | x :: xs, y :: ys, v :: vs, h, hx => ⟨CFit.ok hM hF h.1 hx.1, CsFit.ok h.2 hx.2⟩
  | [], _ :: _, _, h, _ => h.elim
  | _ :: _, [], _, h, _ => h.elim
  | _ :: _, _ :: _, [], _, h => h.elim
  | [], [], _ :: _, _, h => h.elim

theorem VFit.ok {x y : V} {v : Value} (h : VFit m (mem.map (·.1)) x y) (hx : RV im w β m x v) : RV (sealIm im β m (mem.map (·.1))) w β (memOf mem) y v := by
  unfold VFit at h
  split at h
  · trivial
  · exact hx
  · exact hx
  · simp only [RV, RC, RS] at hx
    exact ⟨_, hx⟩
  · exact CFit.ok hM hF h hx
  · obtain ⟨cs, e, hc⟩ := hx
    exact ⟨cs, e, CsFit.ok hM hF h hc⟩
  · exact h.elim

theorem meets_mem : MemOK w0 (sealIm im β m (mem.map (·.1))) β (memOf mem) w := by
  have hkey : ∀ l o', memOf mem l = some o' → l ∈ mem.map (·.1) := fun l o' h => by
    by_cases hk : l ∈ mem.map (·.1)
    · exact hk
    · rw [memOf_not hk] at h; cases h
  have hown : ∀ l b, Owns β (memOf mem) l b → l ∈ mem.map (·.1) ∧ Owns β m l b := fun l b h => by
    cases ho : memOf mem l with
    | none => simp only [Owns, ho] at h
    | some o' =>
      have hk := hkey l o' ho
      obtain ⟨p, p', e1, e2, e3⟩ := memOf_mem hk hF
      rw [ho] at e2
      obtain rfl := Option.some.inj e2
      exact ⟨hk, (e3.owns e1 ho b).1 h⟩
  refine ⟨fun l o' ho => ?_, fun l l' b h1 h2 => hM.dis l l' b (hown l b h1).2 (hown l' b h2).2, fun l o' b ho hb => ?_, fun b hb => ?_, hM.below, fun b hb hlt => ?_⟩
  · have hk := hkey l o' ho
    obtain ⟨o, p', e1, e2, e3⟩ := memOf_mem hk hF
    rw [ho] at e2
    obtain rfl := Option.some.inj e2
    have hR := hM.obj l o e1
    cases o <;> cases o' <;> simp only [OFit] at e3
    · obtain ⟨b, arr, T, h1, h2, h3⟩ := hR
      exact ⟨b, arr, T, h1, h2, CsFit.ok hM hF e3 h3⟩
    · subst e3
      obtain ⟨b, arr, T, fr, h1, h2, h3⟩ := hR
      exact ⟨b, arr, T, fr, h1, h2, RVals.mono (fun b hb => .inl hb) (fun b _ => rfl) _ _ h3⟩
    · obtain ⟨rfl, rfl⟩ := e3
      refine ⟨hR.1, ?_⟩
      rcases hR.2 with h1 | ⟨b, arr, T, h1, h2, h3, h4⟩
      · exact .inl h1
      · exact .inr ⟨b, arr, T, h1, h2, h3, RRows.mono (fun b hb => .inl hb) (fun b _ => rfl) _ b 0 _ rfl h4⟩
    · obtain ⟨rfl, rfl⟩ := e3
      refine ⟨hR.1, ?_⟩
      rcases hR.2 with h1 | ⟨b, h1, h4⟩
      · exact .inl h1
      · exact .inr ⟨b, h1, RRows.mono (fun b hb => .inl hb) (fun b _ => rfl) _ b 0 _ rfl h4⟩
    · obtain ⟨rfl, rfl⟩ := e3
      exact hR
  · obtain ⟨hk, hb'⟩ := hown l b hb
    obtain ⟨o, p', e1, e2, e3⟩ := memOf_mem hk hF
    rw [ho] at e2
    obtain rfl := Option.some.inj e2
    obtain ⟨h1, h2, h3⟩ := hM.own l o b e1 hb'
    refine ⟨h1, h2, ?_⟩
    rw [← e3.loose, h3]
    constructor
    · intro hn hi
      rcases hi with hi | ⟨l', hl', hr', hO'⟩
      · exact hn hi
      · have := hM.dis l l' b hb' hO'
        subst this
        exact hl' hk
    · exact fun hn hi => hn (.inl hi)
  · rcases hb with hb | ⟨l, _, _, hO⟩
    · exact hM.iml b hb
    · cases ho : m l with
      | none => simp only [Owns, ho] at hO
      | some o => exact (hM.own l o b ho hO).2.1
  · rcases hb with hb | ⟨l, _, _, hO⟩
    · exact hM.old b hb hlt
    · cases ho : m l with
      | none => simp only [Owns, ho] at hO
      | some o => have := (hM.own l o b ho hO).1; omega
end

theorem EnvFit.get {m : Nat → Option Obj} {ks : List Nat} {env : Nat → V} : ∀ {live : List (Nat × V)}, EnvFit m ks env live → ∀ i, VFit m ks (env i) (envOf live i)
  | [], _, i => by simp only [envOf]; unfold VFit; split <;> simp_all
  | (j, v) :: r, h, i => by
    simp only [envOf]
    split
    · rename_i e; subst e; exact h.1
    · exact EnvFit.get h.2 i

theorem Weak.meets {st : AS} {live : List (Nat × V)} {mem : List (Nat × Obj)} (h : Meets st live mem) : Weak st ⟨envOf live, memOf mem⟩ := fun N w0 im β a w hr => by
  refine ⟨sealIm im β st.mem (mem.map (·.1)), β, hr.size, hr.defers, fun i => ?_, meets_mem hr.mem h.2⟩
  exact VFit.ok hr.mem h.2 (EnvFit.get h.1 i) (hr.env i)

/-- A row of no rows may be put down, for a nil slice. -/
theorem RC.addNil {im : Nat → Prop} {w : World} {β : Nat → BI} {m : Nat → Option Obj} {l k : Nat} {bi : BI} (hl : m l = none) : ∀ {x : C} {v : Value}, RC im w β m x v →
    RC im w (fun j => if j = l then bi else β j) (upd m l (some (.row k []))) x v
  | .s x, v, h => h
  | .ptr l' o, v, h => by
    obtain ⟨h1, h2⟩ := h
    have hne : l' ≠ l := fun e => by rw [e, hl] at h1; simp [isBox] at h1
    exact ⟨by simp [upd, hne, h1], by simp [hne]; exact h2⟩
  | .own l' n, v, h => by
    obtain ⟨k', rows, h1, h2, h3, h4⟩ := h
    have hne : l' ≠ l := fun e => by rw [e, hl] at h1; simp [rowOf] at h1
    exact ⟨k', rows, by simp [upd, hne, h1], h2, h3, by simp [hne]; exact h4⟩
  | .optr l' n i o, v, h => by
    obtain ⟨k', rows, h1, h2, h3, h4⟩ := h
    have hne : l' ≠ l := fun e => by rw [e, hl] at h1; simp [rowOf] at h1
    exact ⟨k', rows, by simp [upd, hne, h1], h2, h3, by simp [hne]; exact h4⟩
theorem RCs.addNil {im : Nat → Prop} {w : World} {β : Nat → BI} {m : Nat → Option Obj} {l k : Nat} {bi : BI} (hl : m l = none) : ∀ {xs : List C} {vs : List Value}, RCs im w β m xs vs →
    RCs im w (fun j => if j = l then bi else β j) (upd m l (some (.row k []))) xs vs
  | [], [], _ => trivial
  | x :: xs, v :: vs, h => ⟨RC.addNil hl h.1, RCs.addNil hl h.2⟩
  | [], _ :: _, h => h.elim
  | _ :: _, [], h => h.elim
theorem RTs.addNil {im : Nat → Prop} {w : World} {β : Nat → BI} {m : Nat → Option Obj} {l k : Nat} {bi : BI} (hl : m l = none) : ∀ {xs : List (C ⊕ List C)} {vs : List Value}, RTs im w β m xs vs →
    RTs im w (fun j => if j = l then bi else β j) (upd m l (some (.row k []))) xs vs
  | [], [], _ => trivial
  | .inl x :: xs, v :: vs, h => ⟨RC.addNil hl h.1, RTs.addNil hl h.2⟩
  | .inr ys :: xs, v :: vs, h => by
    obtain ⟨⟨cs, e, hc⟩, h2⟩ := h
    exact ⟨⟨cs, e, RCs.addNil hl hc⟩, RTs.addNil hl h2⟩
  | [], _ :: _, h => h.elim
  | .inl _ :: _, [], h => h.elim
  | .inr _ :: _, [], h => h.elim
theorem RV.addNil {im : Nat → Prop} {w : World} {β : Nat → BI} {m : Nat → Option Obj} {l k : Nat} {bi : BI} (hl : m l = none) {x : V} {v : Value} (h : RV im w β m x v) :
    RV im w (fun j => if j = l then bi else β j) (upd m l (some (.row k []))) x v := by
  cases x with
  | junk => trivial
  | undef => exact h
  | tf => exact h
  | c x => exact RC.addNil hl h
  | agg xs => obtain ⟨cs, e, hc⟩ := h; exact ⟨cs, e, RCs.addNil hl hc⟩
  | tup xs => obtain ⟨vs, e, hc⟩ := h; exact ⟨vs, e, RTs.addNil hl hc⟩
theorem Owns.addNil {β : Nat → BI} {m : Nat → Option Obj} {l k : Nat} {bi : BI} (hb : bi.cap = 0) (hl : m l = none) {l' b : Nat} :
    Owns (fun j => if j = l then bi else β j) (upd m l (some (.row k []))) l' b ↔ Owns β m l' b := by
  by_cases e : l' = l
  · subst e; simp [Owns, upd, hl, hb]
  · simp [Owns, upd, e]
theorem MemOK.addNil {w0 : W0} {im : Nat → Prop} {w : World} {β : Nat → BI} {m : Nat → Option Obj} (h : MemOK w0 im β m w) {l k : Nat} {bi : BI} (hb : bi.cap = 0) (hl : m l = none) :
    MemOK w0 im (fun j => if j = l then bi else β j) (upd m l (some (.row k []))) w := by
  refine ⟨fun l' o ho => ?_, fun l1 l2 b h1 h2 => h.dis l1 l2 b ((Owns.addNil hb hl).1 h1) ((Owns.addNil hb hl).1 h2), fun l' o b ho hO => ?_, h.iml, h.below, h.old⟩
  · by_cases e : l' = l
    · subst e
      simp [upd] at ho; subst ho
      exact ⟨by simp, .inl (by simp [hb])⟩
    · have ho' : m l' = some o := by simpa [upd, e] using ho
      have hR := h.obj l' o ho'
      cases o with
      | box cells => obtain ⟨b, arr, T, h1, h2, h3⟩ := hR; exact ⟨b, arr, T, by simpa [e] using h1, h2, RCs.addNil hl h3⟩
      | sbox cells => obtain ⟨b, arr, T, fr, h1, h2, h3⟩ := hR; exact ⟨b, arr, T, fr, by simpa [e] using h1, h2, h3⟩
      | row k' rows => simpa [RObj, e] using hR
      | srow k' rows => simpa [RObj, e] using hR
      | bld T s => simpa [RObj, e] using hR
  · have hO' := (Owns.addNil hb hl).1 hO
    by_cases e : l' = l
    · subst e; simp [Owns, hl] at hO'
    · exact h.own l' o b (by simpa [upd, e] using ho) hO'

/-- A slot's nil slice, taken for a row of the frame's own. -/
theorem Weak.nilSlot {env : Nat → V} {m : Nat → Option Obj} {k' : Nat} (i l k : Nat) (he : env i = .c (.s (.list k' [] true))) (hl : m l = none) :
    Weak ⟨env, m⟩ ⟨upd env i (.c (.own l 0)), upd m l (some (.row k []))⟩ := fun N w0 im β a w hr => by
  have hv := hr.env i
  simp only [he, RV, RC, RS] at hv
  obtain ⟨ad, cap, h1, h2, h3, h4⟩ := hv
  have hc : cap = 0 := by simpa using h3
  refine ⟨im, fun j => if j = l then ⟨ad, 0, none⟩ else β j, hr.size, hr.defers, fun j => ?_, hr.mem.addNil rfl hl⟩
  by_cases e : j = i
  · subst e
    simp only [upd, if_true, RV, RC]
    refine ⟨k, [], by simp [rowOf], by simp, ?_, fun _ => ?_⟩
    · rw [h1]; exact ⟨ad, cap, rfl⟩
    · rw [h1]; simp [hc]
  · have : (upd env i (.c (.own l 0))) j = env j := by simp [upd, e]
    show RV im w _ _ ((upd env i (.c (.own l 0))) j) _
    rw [this]
    exact (hr.env j).addNil hl

theorem RCs.set {im : Nat → Prop} {w : World} {β : Nat → BI} {m : Nat → Option Obj} : ∀ {xs : List C} {vs : List Value} {j : Nat} {y : C}, RCs im w β m xs vs → (∀ v, vs[j]? = some v → RC im w β m y v) → RCs im w β m (xs.set j y) vs
  | [], [], _, _, _, _ => trivial
  | x :: xs, v :: vs, 0, y, h, hy => ⟨hy v rfl, h.2⟩
  | x :: xs, v :: vs, j + 1, y, h, hy => ⟨h.1, RCs.set h.2 (fun u hu => hy u (by simpa using hu))⟩
  | [], _ :: _, _, _, h, _ => h.elim
  | _ :: _, [], _, _, h, _ => h.elim
theorem RCs.at {im : Nat → Prop} {w : World} {β : Nat → BI} {m : Nat → Option Obj} : ∀ {xs : List C} {vs : List Value} {j : Nat} {x : C}, RCs im w β m xs vs → xs[j]? = some x → ∃ v, vs[j]? = some v ∧ RC im w β m x v
  | [], [], _, _, _, h => by simp at h
  | x :: xs, v :: vs, 0, y, h, hy => ⟨v, rfl, by simp at hy; subst hy; exact h.1⟩
  | x :: xs, v :: vs, j + 1, y, h, hy => by
    obtain ⟨u, h1, h2⟩ := RCs.at h.2 (j := j) (by simpa using hy)
    exact ⟨u, by simpa using h1, h2⟩
  | [], _ :: _, _, _, h, _ => h.elim
  | _ :: _, [], _, _, h, _ => h.elim

/-- The same, of a variable's cell. -/
theorem Weak.nilCell {env : Nat → V} {m : Nat → Option Obj} {k' : Nat} {cells : List C} (l2 j l k : Nat) (hb : m l2 = some (.box cells)) (he : cells[j]? = some (.s (.list k' [] true))) (hl : m l = none) :
    Weak ⟨env, m⟩ ⟨env, upd (upd m l (some (.row k []))) l2 (some (.box (cells.set j (.own l 0))))⟩ := fun N w0 im β a w hr => by
  have hne : l2 ≠ l := fun e => by rw [e, hl] at hb; cases hb
  obtain ⟨b, arr, T, h1, h2, h3⟩ := hr.mem.obj l2 _ hb
  obtain ⟨v, hv1, hv2⟩ := RCs.at h3 he
  simp only [RC, RS] at hv2
  obtain ⟨ad, cap, g1, g2, g3, g4⟩ := hv2
  have hc : cap = 0 := by simpa using g3
  have hM := hr.mem.addNil (k := k) (bi := ⟨ad, 0, none⟩) rfl hl
  have hcell : RC im w (fun j => if j = l then ⟨ad, 0, none⟩ else β j) (upd m l (some (.row k []))) (.own l 0) v := by
    refine ⟨k, [], by simp [rowOf, upd], by simp, ?_, fun _ => ?_⟩
    · rw [g1]; exact ⟨ad, cap, rfl⟩
    · rw [g1]; simp [hc]
  have key : ∀ (x : C) (u : Value), RC im w (fun j => if j = l then ⟨ad, 0, none⟩ else β j) (upd m l (some (.row k []))) x u →
      RC im w (fun j => if j = l then ⟨ad, 0, none⟩ else β j) (upd (upd m l (some (.row k []))) l2 (some (.box (cells.set j (.own l 0))))) x u := by
    intro x u hx
    cases x with
    | s x => exact hx
    | ptr l' o =>
      obtain ⟨q1, q2⟩ := hx
      refine ⟨?_, q2⟩
      by_cases e : l' = l2
      · subst e; simp [upd, isBox]
      · simpa [upd, e] using q1
    | own l' n =>
      obtain ⟨k1, rows, q1, q2⟩ := hx
      have e : l' ≠ l2 := fun e => by rw [e] at q1; simp [upd, hne, hb, rowOf] at q1
      exact ⟨k1, rows, by simpa [upd, e] using q1, q2⟩
    | optr l' n i o =>
      obtain ⟨k1, rows, q1, q2⟩ := hx
      have e : l' ≠ l2 := fun e => by rw [e] at q1; simp [upd, hne, hb, rowOf] at q1
      exact ⟨k1, rows, by simpa [upd, e] using q1, q2⟩
  have keys : ∀ (xs : List C) (us : List Value), RCs im w (fun j => if j = l then ⟨ad, 0, none⟩ else β j) (upd m l (some (.row k []))) xs us →
      RCs im w (fun j => if j = l then ⟨ad, 0, none⟩ else β j) (upd (upd m l (some (.row k []))) l2 (some (.box (cells.set j (.own l 0))))) xs us := by
    intro xs
    induction xs with
    | nil => intro us h; cases us with
      | nil => trivial
      | cons _ _ => exact h.elim
    | cons x xs ih => intro us h; cases us with
      | nil => exact h.elim
      | cons u us => exact ⟨key x u h.1, ih us h.2⟩
  have keyts : ∀ (xs : List (C ⊕ List C)) (us : List Value), RTs im w (fun j => if j = l then ⟨ad, 0, none⟩ else β j) (upd m l (some (.row k []))) xs us →
      RTs im w (fun j => if j = l then ⟨ad, 0, none⟩ else β j) (upd (upd m l (some (.row k []))) l2 (some (.box (cells.set j (.own l 0))))) xs us := by
    intro xs
    induction xs with
    | nil => intro us h; cases us with
      | nil => trivial
      | cons _ _ => exact h.elim
    | cons x xs ih => intro us h; cases us with
      | nil => cases x <;> exact h.elim
      | cons u us => cases x with
        | inl x => exact ⟨key x u h.1, ih us h.2⟩
        | inr ys => obtain ⟨⟨cs, e, hc⟩, h5⟩ := h; exact ⟨⟨cs, e, keys _ _ hc⟩, ih us h5⟩
  have hown : ∀ l' b', Owns (fun j => if j = l then ⟨ad, 0, none⟩ else β j) (upd (upd m l (some (.row k []))) l2 (some (.box (cells.set j (.own l 0))))) l' b' ↔ Owns (fun j => if j = l then (⟨ad, 0, none⟩ : BI) else β j) (upd m l (some (.row k []))) l' b' := by
    intro l' b'
    by_cases e : l' = l2
    · subst e; simp [Owns, upd, hne, hb]
    · simp [Owns, upd, e]
  refine ⟨im, fun j => if j = l then ⟨ad, 0, none⟩ else β j, hr.size, hr.defers, fun i => ?_, ?_⟩
  · have hx : RV im w (fun j => if j = l then ⟨ad, 0, none⟩ else β j) (upd m l (some (.row k []))) (env i) (a.tmps.getD i Go.undef) := (hr.env i).addNil (k := k) (bi := ⟨ad, 0, none⟩) hl
    show RV im w _ _ (env i) _
    cases hxi : env i with
    | junk => trivial
    | undef => rw [hxi] at hx; exact hx
    | tf => rw [hxi] at hx; exact hx
    | c x => rw [hxi] at hx; exact key _ _ hx
    | agg xs => rw [hxi] at hx; obtain ⟨cs, e, hc⟩ := hx; exact ⟨cs, e, keys _ _ hc⟩
    | tup xs => rw [hxi] at hx; obtain ⟨cs, e, hc⟩ := hx; exact ⟨cs, e, keyts _ _ hc⟩
  · refine ⟨fun l' o ho => ?_, fun l1 l2' b' q1 q2 => hM.dis l1 l2' b' ((hown _ _).1 q1) ((hown _ _).1 q2), fun l' o b' ho hO => ?_, hM.iml, hM.below, hM.old⟩
    · by_cases e : l' = l2
      · subst e
        simp [upd] at ho; subst ho
        refine ⟨b, arr, T, by simpa [hne] using h1, h2, ?_⟩
        refine RCs.set (keys _ _ (h3.addNil hl)) fun u hu => ?_
        rw [hv1] at hu
        obtain rfl := Option.some.inj hu
        exact key _ _ hcell
      · have ho' : (upd m l (some (.row k []))) l' = some o := by simpa [upd, e] using ho
        have hR := hM.obj l' o ho'
        cases o with
        | box cells' => obtain ⟨b', arr', T', q1, q2, q3⟩ := hR; exact ⟨b', arr', T', q1, q2, keys _ _ q3⟩
        | _ => exact hR
    · have hO' := (hown _ _).1 hO
      by_cases e : l' = l2
      · subst e
        simp [upd] at ho; subst ho
        exact hM.own l' (.box cells) b' (by simp [upd, hne, hb]) hO'
      · exact hM.own l' o b' (by simpa [upd, e] using ho) hO'

/-- A loop over data x of any kind: the slots live at its head are 'live x', memory 'mem x'; each round comes back at x' that are nearer to the end, or goes out. -/
theorem awp_loopM {Γ : FuncId → Spec} {c : SC} {Q : Exit → AS → Prop} {α : Type} (live : α → List (Nat × V)) (mem : α → List (Nat × Obj)) (meas : α → Nat) (x0 : α) (inv : α → Prop) {st : AS}
    (h0 : inv x0) (hw : Weak st ⟨envOf (live x0), memOf (mem x0)⟩)
    (h : ∀ x, inv x → awp Γ c (thenQ (fun s' => ∃ x', inv x' ∧ meas x' < meas x ∧ Meets s' (live x') (mem x')) Q) ⟨envOf (live x), memOf (mem x)⟩) :
    awp Γ (.loop c) Q st := by
  refine ⟨fun n s => ∃ x, inv x ∧ meas x = n ∧ s = ⟨envOf (live x), memOf (mem x)⟩, meas x0, ⟨envOf (live x0), memOf (mem x0)⟩, hw, ⟨x0, h0, rfl, rfl⟩, ?_⟩
  rintro n s ⟨x, hx, rfl, rfl⟩
  refine awp_mono ?_ (h x hx)
  intro e s' hs'
  cases e with
  | normal =>
    obtain ⟨x', h1, h2, h3⟩ := hs'
    exact ⟨⟨envOf (live x'), memOf (mem x')⟩, meas x', Weak.meets h3, h2, x', h1, rfl, rfl⟩
  | _ => exact hs'
end Go.Ab
