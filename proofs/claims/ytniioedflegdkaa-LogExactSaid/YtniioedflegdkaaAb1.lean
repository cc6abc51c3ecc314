/- The abstract data, and how the machine's values bear it. -/
import Derived.Calls
import Derived.Below
import Derived.Laws.World
set_option linter.all false
namespace Go.Ab
open Go Go.RowKit

/-- A sealed cell: pure data. Nobody writes any more into the memory that it leads to. -/
inductive S where
  | bool (b : Bool)
  | int (k : IntKind) (n : Int)
  | str (s : List UInt8)
  | raw (v : Value)
  | list (k : Nat) (rows : List (List S)) (full : Bool)
  | cref (cells : List S)
  | fn (f : FuncId) (caps : List S)

/-- No struct, no tuple: the value of one cell. -/
def flat : Value → Bool
  | .agg _ | .tuple _ => false
  | _ => true

mutual
/-- In the world w, with the blocks im never written again, the value v bears the data. -/
def RS (im : Nat → Prop) (w : World) : S → Value → Prop
  | .bool b, v => v = .bool b
  | .int k n, v => v = .int k n
  | .str s, v => v = .string ⟨⟨s⟩⟩
  | .raw u, v => v = u ∧ flat u = true
  | .list k rows full, v => ∃ a cap, v = .slice a rows.length cap ∧ rows.length ≤ cap ∧ (full = true → cap = rows.length) ∧
      (rows ≠ [] → ∃ b o, a = some ⟨b, o, none⟩ ∧ im b ∧ RRows im w k b o rows)
  | .cref cells, v => ∃ b o, v = .pointer (some ⟨b, o, none⟩) ∧ im b ∧ RRow im w b o cells
  | .fn f caps, v => ∃ cs : Array Value, v = .func (.func f) #[] cs ∧ RVals im w caps cs.toList
def RRows (im : Nat → Prop) (w : World) (k b : Nat) : Nat → List (List S) → Prop
  | _, [] => True
  | o, r :: rs => r.length = k ∧ RRow im w b o r ∧ RRows im w k b (o + k) rs
def RRow (im : Nat → Prop) (w : World) (b : Nat) : Nat → List S → Prop
  | _, [] => True
  | o, x :: xs => (∃ c, w.cell? ⟨b, o, none⟩ = some c ∧ RS im w x c) ∧ RRow im w b (o + 1) xs
def RVals (im : Nat → Prop) (w : World) : List S → List Value → Prop
  | [], [] => True
  | x :: xs, v :: vs => RS im w x v ∧ RVals im w xs vs
  | _, _ => False
end

def Keeps (im : Nat → Prop) (w w' : World) : Prop := ∀ b, im b → w'.heap[b]? = w.heap[b]?

theorem cell_eq {w w' : World} {b o : Nat} (h : w'.heap[b]? = w.heap[b]?) : w'.cell? ⟨b, o, none⟩ = w.cell? ⟨b, o, none⟩ := by
  simp only [World.cell?, h]

section
variable {im im' : Nat → Prop} {w w' : World} (hi : ∀ b, im b → im' b) (hw : Keeps im w w')
include hi hw
mutual
theorem RS.mono : ∀ (x : S) (v : Value), RS im w x v → RS im' w' x v
  | .bool _, _, h | .int _ _, _, h | .str _, _, h | .raw _, _, h => by simpa only [RS] using h
  | .list k rows full, v, h => by
    simp only [RS] at *
    obtain ⟨a, cap, h1, h2, h3, h4⟩ := h
    refine ⟨a, cap, h1, h2, h3, fun hne => ?_⟩
    obtain ⟨b, o, e, hb, hr⟩ := h4 hne
    exact ⟨b, o, e, hi b hb, RRows.mono k b o rows (hw b hb) hr⟩
  | .cref cells, v, h => by
    simp only [RS] at *
    obtain ⟨b, o, e, hb, hr⟩ := h
    exact ⟨b, o, e, hi b hb, RRow.mono b o cells (hw b hb) hr⟩
  | .fn f caps, v, h => by
    simp only [RS] at *
    obtain ⟨cs, e, hr⟩ := h
    exact ⟨cs, e, RVals.mono caps _ hr⟩
theorem RRows.mono (k b : Nat) : ∀ (o : Nat) (rows : List (List S)), w'.heap[b]? = w.heap[b]? → RRows im w k b o rows → RRows im' w' k b o rows
  | _, [], _, _ => by simp only [RRows]
  | o, r :: rs, hb, h => by
    simp only [RRows] at *
    exact ⟨h.1, RRow.mono b o r hb h.2.1, RRows.mono k b (o + k) rs hb h.2.2⟩
theorem RRow.mono (b : Nat) : ∀ (o : Nat) (row : List S), w'.heap[b]? = w.heap[b]? → RRow im w b o row → RRow im' w' b o row
  | _, [], _, _ => by simp only [RRow]
  | o, x :: xs, hb, h => by
    simp only [RRow] at *
    obtain ⟨⟨c, hc, hx⟩, h2⟩ := h
    exact ⟨⟨c, by rw [cell_eq hb]; exact hc, RS.mono x c hx⟩, RRow.mono b (o + 1) xs hb h2⟩
theorem RVals.mono : ∀ (xs : List S) (vs : List Value), RVals im w xs vs → RVals im' w' xs vs
  | [], [], _ => by simp only [RVals]
  | x :: xs, v :: vs, h => by
    simp only [RVals] at *
    exact ⟨RS.mono x v h.1, RVals.mono xs vs h.2⟩
  | [], _ :: _, h => by simp only [RVals] at h
  | _ :: _, [], h => by simp only [RVals] at h
end
end

end Go.Ab
