/- Parts of trees, as loops find them. -/
import Derived.Test.YtjjjgagmknlpmaaTR1
set_option linter.all false
namespace Go.Fs
theorem tw_stop {α : Type} [Inhabited α] {p : α → Bool} : ∀ {l : List α} {n : Nat}, n ≤ l.length → (∀ x ∈ l.take n, p x = true) → (n = l.length ∨ p (l.getD n default) = false) → (l.takeWhile p).length = n
  | [], n, h, _, _ => by simp at h; simp [h]
  | x :: l, 0, _, _, h2 => by
    rcases h2 with h2 | h2
    · simp at h2
    · simp at h2; simp [List.takeWhile, h2]
  | x :: l, n + 1, h, h1, h2 => by
    have hx := h1 x (by simp)
    rw [List.takeWhile_cons, hx]
    simp only [if_true, List.length_cons]
    rw [tw_stop (l := l) (n := n) (by simp at h; omega) (fun y hy => h1 y (by simp [hy])) (by simpa using h2)]
theorem getD_drop {α : Type} {l : List α} {n m : Nat} {d : α} : (l.drop n).getD m d = l.getD (n + m) d := by
  rw [List.getD_eq_getElem?_getD, List.getElem?_drop, ← List.getD_eq_getElem?_getD]
theorem mem_tw {α : Type} {p : α → Bool} {x : α} : ∀ {l : List α}, x ∈ l.takeWhile p → p x = true
  | [], h => by simp at h
  | y :: l, h => by
    rw [List.takeWhile_cons] at h
    split at h
    · rcases List.mem_cons.1 h with rfl | h
      · assumption
      · exact mem_tw h
    · simp at h
theorem endN_of {t : List Ln} {i k : Nat} (h1 : i + 1 ≤ k) (h2 : k ≤ t.length) (h3 : ∀ l ∈ (t.take k).drop (i + 1), (t.getD i default).d < l.d) (h4 : k = t.length ∨ ¬ (t.getD i default).d < (t.getD k default).d) : endN t i = k := by
  unfold endN
  rw [tw_stop (n := k - (i + 1)) (by simp; omega)]
  · omega
  · intro l hl
    rw [← List.drop_take] at hl
    exact decide_eq_true (h3 l hl)
  · rcases h4 with h4 | h4
    · left; simp; omega
    · right
      rw [decide_eq_false]
      rw [getD_drop, show i + 1 + (k - (i + 1)) = k by omega]
      exact h4
theorem endN_spec {t : List Ln} {i : Nat} (h : i < t.length) : i + 1 ≤ endN t i ∧ endN t i ≤ t.length ∧ (∀ l ∈ (t.take (endN t i)).drop (i + 1), (t.getD i default).d < l.d) ∧ (endN t i = t.length ∨ ¬ (t.getD i default).d < (t.getD (endN t i) default).d) := by
  unfold endN
  generalize hp : (fun l : Ln => decide ((t.getD i default).d < l.d)) = p
  have hlen := (List.takeWhile_prefix p (l := t.drop (i + 1))).length_le
  rw [List.length_drop] at hlen
  have hpre := List.prefix_iff_eq_take.1 (List.takeWhile_prefix p (l := t.drop (i + 1)))
  refine ⟨by omega, by omega, ?_, ?_⟩
  · intro l hl
    rw [List.drop_take, Nat.add_sub_cancel_left, ← hpre] at hl
    have := mem_tw hl
    rw [← hp] at this
    exact of_decide_eq_true this
  · by_cases he : i + 1 + ((t.drop (i + 1)).takeWhile p).length = t.length
    · left; exact he
    · right
      intro hc
      have hd : (t.drop (i + 1)).takeWhile p ++ (t.drop (i + 1)).dropWhile p = t.drop (i + 1) := List.takeWhile_append_dropWhile
      cases hw : (t.drop (i + 1)).dropWhile p with
      | nil => rw [hw, List.append_nil] at hd; rw [hd] at he; simp at he; omega
      | cons y r =>
        have hy : p y = false := by
          have := List.head?_dropWhile_not p (t.drop (i + 1))
          rw [hw] at this; simpa using this
        have : t.getD (i + 1 + ((t.drop (i + 1)).takeWhile p).length) default = y := by
          rw [List.getD_eq_getElem?_getD, ← List.getElem?_drop, ← hd, hw]
          conv => lhs; arg 1; arg 2; rw [← hw, hd]
          rw [List.getElem?_append_right (Nat.le_refl _)]; simp
        rw [this] at hc
        rw [← hp] at hy
        exact absurd hc (of_decide_eq_false hy)
def shL (d : Int) (l : Ln) : Ln := ⟨l.d - d, l.w, l.m⟩
def shN (s : List Ln) (d : Int) (x : Nat) : List Ln := (s.take x).map (shL d) ++ s.drop x
theorem shN_zero (s : List Ln) (d : Int) : shN s d 0 = s := rfl
theorem shN_len (s : List Ln) (d : Int) (x : Nat) : (shN s d x).length = s.length := by
  simp [shN]; omega
theorem shN_end (s : List Ln) (d : Int) : shN s d s.length = s.map (shL d) := by simp [shN]
theorem shN_get {s : List Ln} {d : Int} {x : Nat} (h : x < s.length) : (shN s d x).getD x default = s.getD x default := by
  unfold shN
  rw [List.getD_eq_getElem?_getD, List.getElem?_append_right (by simp; omega), List.length_map, List.length_take, Nat.min_eq_left (by omega), Nat.sub_self, List.getElem?_drop, List.getD_eq_getElem?_getD, Nat.add_zero]
theorem shN_set {s : List Ln} {d : Int} {x : Nat} (h : x < s.length) : (shN s d x).set x (shL d (s.getD x default)) = shN s d (x + 1) := by
  unfold shN
  have hl : ((s.take x).map (shL d)).length = x := by simp; omega
  rw [List.set_append_right _ _ (by omega), hl, Nat.sub_self, List.take_succ_eq_append_getElem h, List.drop_eq_getElem_cons h, List.set_cons_zero, List.getD_eq_getElem?_getD, List.getElem?_eq_getElem h, List.map_append]
  simp
theorem subT_eq (t : List Ln) (i : Nat) : subT t i = ((t.take (endN t i)).drop i).map (shL (t.getD i default).d) := rfl
/-- The numbers below x of which something is true. -/
def numsU (p : Nat → Bool) (x : Nat) : List Int := ((List.range x).filter p).map fun (i : Nat) => (i : Int)
theorem numsU_zero (p : Nat → Bool) : numsU p 0 = [] := rfl
theorem numsU_succ (p : Nat → Bool) (x : Nat) : numsU p (x + 1) = numsU p x ++ (if p x = true then [(x : Int)] else []) := by
  unfold numsU
  rw [List.range_succ, List.filter_append, List.map_append]
  congr 1
  cases h : p x <;> simp [h]
theorem numsU_yes {p : Nat → Bool} {x : Nat} (h : p x = true) : numsU p (x + 1) = numsU p x ++ [(x : Int)] := by rw [numsU_succ, if_pos h]
theorem numsU_no {p : Nat → Bool} {x : Nat} (h : p x = false) : numsU p (x + 1) = numsU p x := by rw [numsU_succ, h]; simp
theorem numsU_len (p : Nat → Bool) (x : Nat) : (numsU p x).length ≤ x := by
  unfold numsU
  rw [List.length_map]
  exact Nat.le_trans (List.length_filter_le _ _) (by simp)
def kidB (t : List Ln) (i : Nat) : Bool := decide ((t.getD i default).d = 0)
theorem kids_eq (t : List Ln) : kidsT t = numsU (kidB t) t.length := rfl
theorem leaves_eq (t : List Ln) : leavesT t = numsU (leafB t) t.length := rfl
end Go.Fs
