/- Texts of trees: lengths; a part of a tree is a tree. -/
import Derived.Test.YtjjjgagmknlpmaaTR2
set_option linter.all false
namespace Go.Fs
theorem blanks_len (n : Nat) : (blanksB n).length = 2 * n := by simp [blanksB]
theorem marks_len (m : Int) : (marksB m).length ≤ 19 := by
  unfold marksB inactB protB
  split <;> split <;> simp
theorem closedN_len (n : Nat) : ∀ k : Nat, n + k ≤ 16 → (closedN n k).length ≤ 40 * k
  | 0, _ => by simp [closedN]
  | k + 1, h => by
    have := closedN_len n k (by omega)
    simp only [closedN, List.length_append, blanks_len, List.length_cons, List.length_nil]
    omega
theorem line_len {l : Ln} (h : soundB l = true) : (lineB l).length ≤ 220 := by
  have := (sound_iff l).1 h
  have h1 := marks_len l.m
  have h2 := (quote_len l.w).2
  simp only [lineB, List.length_append, blanks_len]
  omega
theorem end_len {d n : Int} (h : 0 ≤ d ∧ d < 16) (h2 : 0 ≤ n) : (endB d n).length ≤ 650 := by
  unfold endB closedB
  split
  · simp
  · rename_i h3
    have := closedN_len n.toNat (d - n).toNat (by omega)
    simp only [List.length_cons]
    omega
theorem nextD_nonneg {t : List Ln} (h : ∀ l ∈ t, soundB l = true) : 0 ≤ nextD t := by
  cases t with
  | nil => exact Int.le_refl _
  | cons l r => exact ((sound_iff l).1 (h l (by simp))).1.1
theorem text_len : ∀ {t : List Ln}, (∀ l ∈ t, soundB l = true) → (textT t).length ≤ 1000 * t.length
  | [], _ => by simp [textT]
  | l :: r, h => by
    have h1 := line_len (h l (by simp))
    have h2 := end_len ((sound_iff l).1 (h l (by simp))).1 (nextD_nonneg (t := r) fun x hx => h x (by simp [hx]))
    have h3 := text_len (t := r) fun x hx => h x (by simp [hx])
    simp only [textT, List.length_append, List.length_cons]
    omega
theorem text_drop {t : List Ln} {i : Nat} (h : i < t.length) : textT (t.drop i) = lineB (t.getD i default) ++ endB (t.getD i default).d (nextD (t.drop (i + 1))) ++ textT (t.drop (i + 1)) := by
  rw [drop_getD h]; rfl
theorem nextD_drop {t : List Ln} {i : Nat} : nextD (t.drop i) = if i < t.length then (t.getD i default).d else 0 := by
  split
  · rename_i h; rw [drop_getD h]; rfl
  · rename_i h; rw [List.drop_eq_nil_of_le (by omega)]; rfl
theorem getD_dropL {α : Type} {l : List α} {k j : Nat} {d : α} : (l.drop k).getD j d = l.getD (k + j) d := getD_drop
/-- Lines of a depth and more, as a part. -/
theorem goS_shift : ∀ {b : List Ln} {st : List Bs} {k : Nat}, k ≤ st.length → (∀ l ∈ b, (k : Int) ≤ l.d) → goS st b = true → goS (st.drop k) (b.map (shL k)) = true
  | [], _, _, _, _, _ => rfl
  | l :: r, st, k, hk, hd, h => by
    have hl := hd l (by simp)
    simp only [goS, Bool.and_eq_true, decide_eq_true_eq, Bool.not_eq_true', Bool.and_eq_false_iff, decide_eq_false_iff_not] at h
    obtain ⟨⟨⟨h1, h2⟩, h3⟩, h4⟩ := h
    have hs := (sound_iff l).1 h1
    have ih := goS_shift (k := k) (st := st.take l.d.toNat ++ [l.w]) (b := r) (by simp; omega) (fun x hx => hd x (by simp [hx])) h4
    have e1 : (shL k l).d = l.d - k := rfl
    have e2 : (shL k l).w = l.w := rfl
    have e3 : (l.d - (k : Int)).toNat = l.d.toNat - k := by omega
    have e4 : k + (l.d.toNat - k) = l.d.toNat := by omega
    have e5 : (st.drop k).take (l.d.toNat - k) ++ [l.w] = (st.take l.d.toNat ++ [l.w]).drop k := by
      rw [List.drop_append_of_le_length (by simp; omega), List.drop_take]
    simp only [List.map_cons, goS, Bool.and_eq_true, decide_eq_true_eq, Bool.not_eq_true', Bool.and_eq_false_iff, decide_eq_false_iff_not, e1, e2, e3, getD_dropL, e4, e5, List.length_drop]
    refine ⟨⟨⟨(sound_iff _).2 ⟨⟨?_, ?_⟩, hs.2⟩, by omega⟩, ?_⟩, ih⟩
    · rw [e1]; omega
    · rw [e1]; omega
    · rcases h3 with h3 | h3
      · left; omega
      · right; exact h3
theorem goS_append : ∀ {a b : List Ln} {st : List Bs}, goS st (a ++ b) = (goS st a && goS (pathS st a) b)
  | [], _, _ => by simp [goS, pathS]
  | x :: a, b, st => by simp only [List.cons_append, goS, pathS]; rw [goS_append]; simp only [Bool.and_assoc]
theorem right_sub {t : List Ln} {i : Nat} (h : rightT t = true) (hi : i < t.length) : rightT (subT t i) = true := by
  obtain ⟨hl, hg⟩ := right_len h
  obtain ⟨e1, e2, e3, e4⟩ := endN_spec hi
  have hsplit : t = t.take i ++ (t.getD i default :: ((t.take (endN t i)).drop (i + 1) ++ t.drop (endN t i))) := by
    conv => lhs; rw [← List.take_append_drop i t, drop_getD hi]
    congr 2
    conv => lhs; rw [← List.take_append_drop (endN t i) t, List.drop_append_of_le_length (by simp; omega)]
  have hsub : subT t i = (t.getD i default :: (t.take (endN t i)).drop (i + 1)).map (shL (t.getD i default).d) := by
    rw [subT_eq]
    congr 1
    rw [drop_getD (l := t.take (endN t i)) (by simp; omega)]
    congr 1
    rw [List.getD_eq_getElem?_getD, List.getElem?_take_of_lt (by omega), ← List.getD_eq_getElem?_getD]
  rw [hsplit, goS_append, Bool.and_eq_true, ← List.cons_append] at hg
  have hg2 := goS_prefix hg.2
  have hsl : (subT t i).length ≤ t.length := by rw [hsub]; simp; omega
  generalize pathS [] (t.take i) = st at *
  generalize t.getD i default = l at *
  generalize (t.take (endN t i)).drop (i + 1) = b at *
  simp only [goS, Bool.and_eq_true, decide_eq_true_eq] at hg2
  obtain ⟨⟨⟨h1, h2⟩, h3⟩, h4⟩ := hg2
  have hs := (sound_iff l).1 h1
  have hc : ((l.d.toNat : Nat) : Int) = l.d := by omega
  have := goS_shift (k := l.d.toNat) (st := st.take l.d.toNat ++ [l.w]) (b := b) (by simp; omega) (fun x hx => by have := e3 x hx; omega) h4
  rw [hc, List.drop_append_of_le_length (by simp; omega), List.drop_take, Nat.sub_self, List.take_zero, List.nil_append] at this
  unfold rightT
  rw [Bool.and_eq_true, decide_eq_true_eq]
  refine ⟨by omega, ?_⟩
  rw [hsub, List.map_cons]
  have e5 : (shL l.d l).d = 0 := by show l.d - l.d = 0; omega
  have e6 : (shL l.d l).w = l.w := rfl
  simp only [goS, Bool.and_eq_true, decide_eq_true_eq, e5, e6]
  refine ⟨⟨⟨(sound_iff _).2 ⟨⟨by rw [e5]; omega, by rw [e5]; omega⟩, hs.2⟩, by simp⟩, by simp⟩, this⟩
end Go.Fs
