/- How a frame's memory and slots bear the abstract state. -/
import Derived.Test.YtniioedflegdkaaAb3
set_option linter.all false
namespace Go.Ab
open Go Go.RowKit

/-- Where a thing of the frame's own lies. -/
structure BI where
  a : Option Addr
  cap : Nat
  a2 : Option Nat

def isBox : Option Obj → Bool
  | some (.box _) | some (.sbox _) | some (.bld ..) => true
  | _ => false

def rowOf : Option Obj → Option (Nat × List (List S))
  | some (.row k rows) | some (.srow k rows) => some (k, rows)
  | _ => none

/-- A thing that may still be written. -/
def loose : Obj → Bool
  | .box _ | .row .. | .bld .. => true
  | _ => false

section
variable (im : Nat → Prop) (w : World) (β : Nat → BI) (m : Nat → Option Obj)

def RC : C → Value → Prop
  | .s x, v => RS im w x v
  | .ptr l o, v => isBox (m l) = true ∧ ∃ b, (β l).a = some ⟨b, 0, none⟩ ∧ v = .pointer (some ⟨b, o, none⟩)
  | .own l n, v => ∃ k rows, rowOf (m l) = some (k, rows) ∧ n ≤ rows.length ∧ (∃ a c, v = .slice a n c) ∧ (n = rows.length → v = .slice (β l).a n (β l).cap)
  | .optr l n i o, v => ∃ k rows, rowOf (m l) = some (k, rows) ∧ n ≤ rows.length ∧ (∃ p, v = .pointer p) ∧
      (n = rows.length → i < n ∧ ∃ b, (β l).a = some ⟨b, 0, none⟩ ∧ v = .pointer (some ⟨b, i * k + o, none⟩))

def RCs : List C → List Value → Prop
  | [], [] => True
  | x :: xs, v :: vs => RC im w β m x v ∧ RCs xs vs
  | _, _ => False

def RTs : List (C ⊕ List C) → List Value → Prop
  | [], [] => True
  | .inl x :: xs, v :: vs => RC im w β m x v ∧ RTs xs vs
  | .inr ys :: xs, v :: vs => (∃ cs : Array Value, v = .agg cs ∧ RCs im w β m ys cs.toList) ∧ RTs xs vs
  | _, _ => False

def RV : V → Value → Prop
  | .junk, _ => True
  | .undef, v => v = Go.undef
  | .tf, v => ∃ b, v = .bool b
  | .c x, v => RC im w β m x v
  | .agg xs, v => ∃ cs : Array Value, v = .agg cs ∧ RCs im w β m xs cs.toList
  | .tup xs, v => ∃ vs : Array Value, v = .tuple vs ∧ RTs im w β m xs vs.toList

/-- Block b is thing l's. -/
def Owns (l b : Nat) : Prop :=
  match m l with
  | some (.box _) | some (.sbox _) => (β l).a = some ⟨b, 0, none⟩
  | some (.bld ..) => (β l).a = some ⟨b, 0, none⟩ ∨ (β l).a2 = some b
  | some (.row ..) | some (.srow ..) => (β l).a = some ⟨b, 0, none⟩ ∧ (β l).cap ≠ 0
  | none => False

def RObj (l : Nat) : Obj → Prop
  | .box cells => ∃ b arr T, (β l).a = some ⟨b, 0, none⟩ ∧ w.heap[b]? = some (.cells arr T (0, 0)) ∧ RCs im w β m cells arr.toList
  | .sbox cells => ∃ b arr T fr, (β l).a = some ⟨b, 0, none⟩ ∧ w.heap[b]? = some (.cells arr T fr) ∧ RVals im w cells arr.toList
  | .row k rows => rows.length ≤ (β l).cap ∧ ((β l).cap = 0 ∨ ∃ b arr T, (β l).a = some ⟨b, 0, none⟩ ∧ w.heap[b]? = some (.cells arr T (0, 0)) ∧
      arr.size = (β l).cap * k ∧ RRows im w k b 0 rows)
  | .srow k rows => rows.length ≤ (β l).cap ∧ ((β l).cap = 0 ∨ ∃ b, (β l).a = some ⟨b, 0, none⟩ ∧ RRows im w k b 0 rows)
  | .bld T s => ∃ b, (β l).a = some ⟨b, 0, none⟩ ∧
      ((s = [] ∧ (β l).a2 = none ∧ ∃ p, (p = none ∨ p = some ⟨b, 0, none⟩) ∧ w.heap[b]? = some (.cells #[.pointer p, .slice none 0 0] T.1 (0, 0))) ∨
       (∃ b2 arr cap fr, (β l).a2 = some b2 ∧ b2 ≠ b ∧ w.heap[b]? = some (.cells #[.pointer (some ⟨b, 0, none⟩), .slice (some ⟨b2, 0, none⟩) s.length cap] T.1 (0, 0)) ∧
          w.heap[b2]? = some (.cells arr T.2 fr) ∧ arr.size = cap ∧ s.length ≤ cap ∧ 0 < cap ∧ fr.2 ≤ s.length ∧
          ∀ i (h : i < s.length), arr[i]? = some (.int .u8 (s[i].toNat : Int))))
end

/-- One state of memory behind another: what was known stays known. -/
structure Ext (im im' : Nat → Prop) (w w' : World) (β β' : Nat → BI) (m m' : Nat → Option Obj) : Prop where
  hi : ∀ b, im b → im' b
  hw : Keeps im w w'
  box : ∀ l, isBox (m l) = true → isBox (m' l) = true ∧ (β' l).a = (β l).a
  row : ∀ l k rows, rowOf (m l) = some (k, rows) → ∃ rows', rowOf (m' l) = some (k, rows') ∧ rows.length ≤ rows'.length ∧ (rows'.length = rows.length → (β' l).a = (β l).a ∧ (β' l).cap = (β l).cap)

section
variable {im im' : Nat → Prop} {w w' : World} {β β' : Nat → BI} {m m' : Nat → Option Obj}

theorem RC.ext (h : Ext im im' w w' β β' m m') : ∀ (x : C) (v : Value), RC im w β m x v → RC im' w' β' m' x v
  | .s x, v, hx => RS.mono h.hi h.hw x v hx
  | .ptr l o, v, hx => by
    obtain ⟨h1, b, h2, h3⟩ := hx
    obtain ⟨e1, e2⟩ := h.box l h1
    exact ⟨e1, b, by rw [e2]; exact h2, h3⟩
  | .own l n, v, hx => by
    obtain ⟨k, rows, h1, h2, h3, h4⟩ := hx
    obtain ⟨rows', e1, e2, e3⟩ := h.row l k rows h1
    refine ⟨k, rows', e1, Nat.le_trans h2 e2, h3, fun hn => ?_⟩
    have hl : rows'.length = rows.length := by omega
    obtain ⟨f1, f2⟩ := e3 hl
    rw [f1, f2]
    exact h4 (by omega)
  | .optr l n i o, v, hx => by
    obtain ⟨k, rows, h1, h2, h3, h4⟩ := hx
    obtain ⟨rows', e1, e2, e3⟩ := h.row l k rows h1
    refine ⟨k, rows', e1, Nat.le_trans h2 e2, h3, fun hn => ?_⟩
    have hl : rows'.length = rows.length := by omega
    rw [(e3 hl).1]
    exact h4 (by omega)

theorem RCs.ext (h : Ext im im' w w' β β' m m') : ∀ (xs : List C) (vs : List Value), RCs im w β m xs vs → RCs im' w' β' m' xs vs
  | [], [], _ => trivial
  | x :: xs, v :: vs, hx => ⟨RC.ext h x v hx.1, RCs.ext h xs vs hx.2⟩
  | [], _ :: _, hx => hx.elim
  | _ :: _, [], hx => hx.elim

theorem RTs.ext (h : Ext im im' w w' β β' m m') : ∀ (xs : List (C ⊕ List C)) (vs : List Value), RTs im w β m xs vs → RTs im' w' β' m' xs vs
  | [], [], _ => trivial
  | .inl x :: xs, v :: vs, hx => ⟨RC.ext h x v hx.1, RTs.ext h xs vs hx.2⟩
  | .inr ys :: xs, v :: vs, hx => by
    obtain ⟨⟨cs, e, hc⟩, h2⟩ := hx
    exact ⟨⟨cs, e, RCs.ext h ys _ hc⟩, RTs.ext h xs vs h2⟩
  | [], _ :: _, hx => hx.elim
  | .inl _ :: _, [], hx => hx.elim
  | .inr _ :: _, [], hx => hx.elim

theorem RV.ext (h : Ext im im' w w' β β' m m') (x : V) (v : Value) (hx : RV im w β m x v) : RV im' w' β' m' x v := by
  cases x with
  | junk => trivial
  | undef => exact hx
  | tf => exact hx
  | c x => exact RC.ext h x v hx
  | agg xs => obtain ⟨cs, e, hc⟩ := hx; exact ⟨cs, e, RCs.ext h xs _ hc⟩
  | tup xs => obtain ⟨vs, e, hc⟩ := hx; exact ⟨vs, e, RTs.ext h xs _ hc⟩

/-- A thing that the step leaves alone. -/
theorem RObj.ext (h : Ext im im' w w' β β' m m') {l : Nat} {o : Obj} (hl : m l = some o) (hβ : β' l = β l)
    (hk : ∀ b, Owns β m l b → w'.heap[b]? = w.heap[b]?) (ho : RObj im w β m l o) : RObj im' w' β' m' l o := by
  cases o with
  | box cells =>
    obtain ⟨b, arr, T, h1, h2, h3⟩ := ho
    exact ⟨b, arr, T, by rw [hβ]; exact h1, by rw [hk b (by simp [Owns, hl, h1])]; exact h2, RCs.ext h _ _ h3⟩
  | sbox cells =>
    obtain ⟨b, arr, T, fr, h1, h2, h3⟩ := ho
    exact ⟨b, arr, T, fr, by rw [hβ]; exact h1, by rw [hk b (by simp [Owns, hl, h1])]; exact h2, RVals.mono h.hi h.hw _ _ h3⟩
  | row k rows =>
    obtain ⟨h0, ho⟩ := ho
    refine ⟨by rw [hβ]; exact h0, ?_⟩
    rw [hβ]
    by_cases hc : (β l).cap = 0
    · exact .inl hc
    rcases ho with h1 | ⟨b, arr, T, h1, h2, h3, h5⟩
    · exact .inl h1
    · have e := hk b (by simp [Owns, hl, h1, hc])
      exact .inr ⟨b, arr, T, h1, by rw [e]; exact h2, h3, RRows.mono h.hi h.hw k b 0 rows e h5⟩
  | srow k rows =>
    obtain ⟨h0, ho⟩ := ho
    refine ⟨by rw [hβ]; exact h0, ?_⟩
    rw [hβ]
    by_cases hc : (β l).cap = 0
    · exact .inl hc
    rcases ho with h1 | ⟨b, h1, h5⟩
    · exact .inl h1
    · exact .inr ⟨b, h1, RRows.mono h.hi h.hw k b 0 rows (hk b (by simp [Owns, hl, h1, hc])) h5⟩
  | bld T s =>
    obtain ⟨b, h1, h2⟩ := ho
    have e := hk b (by simp [Owns, hl, h1])
    refine ⟨b, by rw [hβ]; exact h1, ?_⟩
    rw [hβ]
    rcases h2 with ⟨g1, g2, p, g3, g4⟩ | ⟨b2, arr, cap, fr, g1, g2, g3, g4, g5⟩
    · exact .inl ⟨g1, g2, p, g3, by rw [e]; exact g4⟩
    · refine .inr ⟨b2, arr, cap, fr, g1, g2, by rw [e]; exact g3, ?_, g5⟩
      rw [hk b2 (by simp [Owns, hl, g1])]; exact g4
end

/-- The world in which the frame began, and what was sealed then. -/
structure W0 extends World where
  im0 : Nat → Prop
instance : Coe W0 World := ⟨W0.toWorld⟩

/-- The frame's memory. -/
structure MemOK (w0 : W0) (im : Nat → Prop) (β : Nat → BI) (m : Nat → Option Obj) (w : World) : Prop where
  obj : ∀ l o, m l = some o → RObj im w β m l o
  dis : ∀ l l' b, Owns β m l b → Owns β m l' b → l = l'
  own : ∀ l o b, m l = some o → Owns β m l b → w0.heap.size ≤ b ∧ b < w.heap.size ∧ (loose o = true ↔ ¬ im b)
  iml : ∀ b, im b → b < w.heap.size
  below : Below w0.heap.size w0 w
  old : ∀ b, im b → b < w0.heap.size → w0.im0 b

/-- One thing turns, or comes; all others stay. -/
theorem MemOK.change {w0 : W0} {im im' : Nat → Prop} {β β' : Nat → BI} {m m' : Nat → Option Obj} {w w' : World} (h : MemOK w0 im β m w) {l : Nat} {o' : Obj}
    (hext : Ext im im' w w' β β' m m') (hm : m' = upd m l (some o')) (hβ : ∀ l', l' ≠ l → β' l' = β l')
    (hk : ∀ l' b, l' ≠ l → Owns β m l' b → w'.heap[b]? = w.heap[b]?) (hsz : w.heap.size ≤ w'.heap.size)
    (ho : RObj im' w' β' m' l o')
    (hown : ∀ b, Owns β' m' l b → w0.heap.size ≤ b ∧ b < w'.heap.size ∧ (∀ l', l' ≠ l → ¬ Owns β m l' b) ∧ (loose o' = true ↔ ¬ im' b))
    (him : ∀ b, im' b → b < w'.heap.size)
    (himo : ∀ l' b, l' ≠ l → Owns β m l' b → im' b → im b)
    (hbelow : Below w0.heap.size w0 w') (hold : ∀ b, im' b → b < w0.heap.size → im b) : MemOK w0 im' β' m' w' := by
  have hoth : ∀ l', l' ≠ l → m' l' = m l' := fun l' hl => by rw [hm]; simp [upd, hl]
  have hO : ∀ l' b, l' ≠ l → (Owns β' m' l' b ↔ Owns β m l' b) := fun l' b hl => by simp only [Owns, hoth l' hl, hβ l' hl]
  refine ⟨fun l1 o1 h1 => ?_, fun l1 l2 b h1 h2 => ?_, fun l1 o1 b h1 h2 => ?_, him, hbelow, fun b hb hlt => h.old b (hold b hb hlt) hlt⟩
  · by_cases hl : l1 = l
    · subst hl
      rw [hm] at h1; simp [upd] at h1; subst h1; exact ho
    · rw [hoth l1 hl] at h1
      exact RObj.ext hext h1 (hβ l1 hl) (fun b hb => hk l1 b hl hb) (h.obj l1 o1 h1)
  · by_cases e1 : l1 = l <;> by_cases e2 : l2 = l
    · rw [e1, e2]
    · subst e1; exact absurd ((hO l2 b e2).1 h2) ((hown b h1).2.2.1 l2 e2)
    · subst e2; exact absurd ((hO l1 b e1).1 h1) ((hown b h2).2.2.1 l1 e1)
    · exact h.dis l1 l2 b ((hO l1 b e1).1 h1) ((hO l2 b e2).1 h2)
  · by_cases hl : l1 = l
    · subst hl
      rw [hm] at h1; simp [upd] at h1; subst h1
      obtain ⟨g1, g2, _, g4⟩ := hown b h2
      exact ⟨g1, g2, g4⟩
    · rw [hoth l1 hl] at h1
      have h3 := (hO l1 b hl).1 h2
      obtain ⟨g1, g2, g3⟩ := h.own l1 o1 b h1 h3
      refine ⟨g1, Nat.lt_of_lt_of_le g2 hsz, g3.trans ⟨fun hn hi => hn (himo l1 b hl h3 hi), fun hn hi => hn (hext.hi b hi)⟩⟩

/-- Nothing that the frame has turns: the world grows, more is sealed there. -/
theorem MemOK.grow {w0 : W0} {im im' : Nat → Prop} {β : Nat → BI} {m : Nat → Option Obj} {w w' : World} (h : MemOK w0 im β m w)
    (hb : Below w.heap.size w w') (hi : ∀ b, im b → im' b) (hn : ∀ b, im' b → im b ∨ w.heap.size ≤ b) (him : ∀ b, im' b → b < w'.heap.size) :
    MemOK w0 im' β m w' ∧ Ext im im' w w' β β m m := by
  have hk : ∀ b, b < w.heap.size → w'.heap[b]? = w.heap[b]? := fun b hlt => hb.block b hlt
  have hext : Ext im im' w w' β β m m := ⟨hi, fun b hb' => hk b (h.iml b hb'), fun l hl => ⟨hl, rfl⟩, fun l k rows hr => ⟨rows, hr, Nat.le_refl _, fun _ => ⟨rfl, rfl⟩⟩⟩
  refine ⟨⟨fun l o hl => RObj.ext hext hl rfl (fun b hb' => hk b (h.own l o b hl hb').2.1) (h.obj l o hl), h.dis, fun l o b hl ho => ?_, him, ?_, fun b hb' hlt => h.old b ((hn b hb').resolve_right (by have := h.below.size; omega)) hlt⟩, hext⟩
  · obtain ⟨g1, g2, g3⟩ := h.own l o b hl ho
    refine ⟨g1, Nat.lt_of_lt_of_le g2 hb.size, g3.trans ⟨fun hn' hi' => ?_, fun hn' hi' => hn' (hi b hi')⟩⟩
    rcases hn b hi' with h1 | h1
    · exact hn' h1
    · omega
  · exact h.below.trans (hb.mono h.below.size)

/-- The frame. -/
structure Rel (N : Nat) (w0 : W0) (im : Nat → Prop) (β : Nat → BI) (st : AS) (a : Act) (w : World) : Prop where
  size : a.tmps.size = N
  defers : a.defers = []
  env : ∀ i, RV im w β st.mem (st.env i) (a.tmps.getD i Go.undef)
  mem : MemOK w0 im β st.mem w

end Go.Ab
