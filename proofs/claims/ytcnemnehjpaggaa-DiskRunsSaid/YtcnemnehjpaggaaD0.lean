/- Plain facts on lists. -/
import Derived.Test.YtcnemnehjpaggaaW1
set_option linter.all false
namespace Go.Fs
/-- The first place that meets a test; else -1. -/
def findI {α : Type} (p : α → Bool) (l : List α) : Int := match l.findIdx? p with
  | some i => (i : Int)
  | none => -1
theorem findI_end {α : Type} {p : α → Bool} {l : List α} (h : ∀ a ∈ l, p a = false) : findI p l = -1 := by
  have : l.findIdx? p = none := by rw [List.findIdx?_eq_none_iff]; exact h
  unfold findI; rw [this]
theorem take_getD {α : Type} [Inhabited α] {l : List α} {i : Nat} (h : i < l.length) : l.take (i + 1) = l.take i ++ [l.getD i default] := by
  rw [List.take_succ_eq_append_getElem h]; simp [h]
theorem drop_getD {α : Type} [Inhabited α] {l : List α} {i : Nat} (h : i < l.length) : l.drop i = l.getD i default :: l.drop (i + 1) := by
  rw [List.drop_eq_getElem_cons h]; simp [h]
theorem mem_getD {α : Type} [Inhabited α] {l : List α} {i : Nat} (h : i < l.length) : l.getD i default ∈ l := by
  rw [List.getD_eq_getElem?_getD, List.getElem?_eq_getElem h]; exact List.getElem_mem h
theorem findI_hit {α : Type} [Inhabited α] {p : α → Bool} {l : List α} {i : Nat} (hi : i < l.length) (h : ∀ a ∈ l.take i, p a = false) (hp : p (l.getD i default) = true) : findI p l = i := by
  have e : l = l.take i ++ l.getD i default :: l.drop (i + 1) := by rw [← drop_getD hi, List.take_append_drop]
  have h0 : (l.take i).findIdx? p = none := by rw [List.findIdx?_eq_none_iff]; exact h
  have : l.findIdx? p = some i := by
    rw [e, List.findIdx?_append, h0, List.findIdx?_cons, hp]
    simp; omega
  unfold findI; rw [this]
theorem findI_ge {α : Type} {p : α → Bool} {l : List α} : decide (0 ≤ findI p l) = l.any p := by
  unfold findI
  cases h : l.findIdx? p with
  | none =>
    rw [List.findIdx?_eq_none_iff] at h
    have : l.any p = false := by rw [List.any_eq_false]; intro a ha; simp [h a ha]
    rw [this]; rfl
  | some i =>
    have : l.any p = true := by
      rw [List.findIdx?_eq_some_iff_getElem] at h
      obtain ⟨h1, h2, _⟩ := h
      exact List.any_eq_true.2 ⟨l[i], List.getElem_mem h1, h2⟩
    rw [this]; exact decide_eq_true (Int.natCast_nonneg i)
theorem take_all {α : Type} [Inhabited α] {Q : α → Prop} {l : List α} {i : Nat} (hi : i < l.length) (h : ∀ a ∈ l.take i, Q a) (hq : Q (l.getD i default)) : ∀ a ∈ l.take (i + 1), Q a := by
  intro a ha
  rw [take_getD hi] at ha
  rcases List.mem_append.1 ha with h1 | h1
  · exact h a h1
  · simp at h1; rw [h1]; exact hq
theorem any_not_all {α : Type} {p : α → Bool} {l : List α} : (!l.any fun a => !p a) = l.all p := by
  induction l with
  | nil => rfl
  | cons a l ih => simp only [List.any_cons, List.all_cons, Bool.not_or, Bool.not_not, ih]
end Go.Fs
