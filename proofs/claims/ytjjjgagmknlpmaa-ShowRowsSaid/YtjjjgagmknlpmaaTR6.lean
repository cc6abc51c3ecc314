/- The document's trees: pair by pair of siblings; its text. -/
import Derived.Test.YtjjjgagmknlpmaaTR5
set_option linter.all false
namespace Go.Fs
/-- A line's word, and those of its siblings behind it. -/
def fw (d : Int) (w : Bs) : List Ln → Bool
  | [] => true
  | x :: r => if x.d < d then true else !(decide (x.d = d) && leB x.w w) && fw d w r
def fwAll : List Ln → Bool
  | [] => true
  | x :: r => fw x.d x.w r && fwAll r
def stepA (n : Int) : List Ln → Bool
  | [] => true
  | l :: r => soundB l && decide (l.d ≤ n) && stepA (l.d + 1) r
theorem fw_mono {d : Int} {v w : Bs} (h : leB w v = false) : ∀ {r : List Ln}, fw d w r = true → fw d v r = true
  | [], _ => rfl
  | x :: r, h2 => by
    unfold fw at h2 ⊢
    split
    · rfl
    · rename_i q
      rw [if_neg q, Bool.and_eq_true] at h2
      rw [Bool.and_eq_true]
      refine ⟨?_, fw_mono h h2.2⟩
      have h3 := h2.1
      by_cases e : x.d = d
      · rw [decide_eq_true e, Bool.true_and, Bool.not_eq_true'] at h3 ⊢
        exact gt_trans h3 h
      · rw [decide_eq_false e]; rfl
theorem goS_iff : ∀ {t : List Ln} {st : List Bs}, goS st t = true ↔ stepA st.length t = true ∧ (∀ j : Nat, j < st.length → fw j (st.getD j []) t = true) ∧ fwAll t = true
  | [], st => by simp [goS, stepA, fw, fwAll]
  | l :: r, st => by
    have ih := goS_iff (t := r) (st := st.take l.d.toNat ++ [l.w])
    simp only [goS, stepA, fwAll, Bool.and_eq_true, decide_eq_true_eq]
    constructor
    · rintro ⟨⟨⟨h1, h2⟩, h3⟩, h4⟩
      have hs := ((sound_iff l).1 h1).1
      obtain ⟨i1, i2, i3⟩ := ih.1 h4
      have hlen : (st.take l.d.toNat ++ [l.w]).length = l.d.toNat + 1 := by simp; omega
      have hself : fw l.d l.w r = true := by
        have := i2 l.d.toNat (by omega)
        rw [List.getD_eq_getElem?_getD, List.getElem?_append_right (by simp; omega)] at this
        have e : l.d.toNat - (st.take l.d.toNat).length = 0 := by simp; omega
        rw [e] at this
        have e2 : ((l.d.toNat : Nat) : Int) = l.d := by omega
        rw [e2] at this
        simpa using this
      refine ⟨⟨⟨h1, h2⟩, by rw [hlen] at i1; rw [show l.d + 1 = ((l.d.toNat + 1 : Nat) : Int) by omega]; exact i1⟩, fun j hj => ?_, hself, i3⟩
      unfold fw
      split
      · rfl
      · rename_i q
        rw [Bool.and_eq_true]
        by_cases e : l.d = j
        · subst_vars
          have ej : l.d.toNat = j := by omega
          rw [ej] at h3
          rw [decide_eq_true (by omega : l.d < (st.length : Int)), Bool.true_and] at h3
          rw [decide_eq_true e, Bool.true_and]
          refine ⟨h3, ?_⟩
          rw [Bool.not_eq_true'] at h3
          rw [← e]
          exact fw_mono h3 hself
        · refine ⟨by rw [decide_eq_false e]; rfl, ?_⟩
          have hjd : j < l.d.toNat := by omega
          have := i2 j (by omega)
          rw [List.getD_eq_getElem?_getD, List.getElem?_append_left (by simp; omega), List.getElem?_take_of_lt hjd, ← List.getD_eq_getElem?_getD] at this
          exact this
    · rintro ⟨⟨⟨h1, h2⟩, h3⟩, h4, h5, h6⟩
      have hs := ((sound_iff l).1 h1).1
      have hlen : (st.take l.d.toNat ++ [l.w]).length = l.d.toNat + 1 := by simp; omega
      refine ⟨⟨⟨h1, h2⟩, ?_⟩, ih.2 ⟨by rw [hlen, show ((l.d.toNat + 1 : Nat) : Int) = l.d + 1 by omega]; exact h3, fun j hj => ?_, h6⟩⟩
      · rw [Bool.not_eq_true', Bool.and_eq_false_iff, decide_eq_false_iff_not]
        by_cases q : l.d < (st.length : Int)
        · right
          have := h4 l.d.toNat (by omega)
          unfold fw at this
          have e : ((l.d.toNat : Nat) : Int) = l.d := by omega
          rw [e, if_neg (by omega), Bool.and_eq_true, decide_eq_true rfl, Bool.true_and, Bool.not_eq_true'] at this
          exact this.1
        · left; exact q
      · rcases Nat.lt_or_ge j l.d.toNat with q | q
        · have := h4 j (by omega)
          unfold fw at this
          rw [if_neg (by omega), Bool.and_eq_true] at this
          rw [List.getD_eq_getElem?_getD, List.getElem?_append_left (by simp; omega), List.getElem?_take_of_lt q, ← List.getD_eq_getElem?_getD]
          exact this.2
        · have ej : j = l.d.toNat := by omega
          subst ej
          rw [List.getD_eq_getElem?_getD, List.getElem?_append_right (by simp; omega)]
          have e : l.d.toNat - (st.take l.d.toNat).length = 0 := by simp; omega
          rw [e]
          have e2 : ((l.d.toNat : Nat) : Int) = l.d := by omega
          rw [e2]
          simpa using h5
theorem right_iff2 (t : List Ln) : rightT t = true ↔ t.length ≤ 200 ∧ stepA 0 t = true ∧ fwAll t = true := by
  unfold rightT
  rw [Bool.and_eq_true, decide_eq_true_eq, goS_iff]
  constructor
  · rintro ⟨h1, h2, -, h3⟩; exact ⟨h1, h2, h3⟩
  · rintro ⟨h1, h2, h3⟩; exact ⟨h1, h2, fun j hj => by simp at hj, h3⟩
/-- The first law, line by line. -/
def okL (t : List Ln) (i : Nat) : Bool := soundB (t.getD i default) && decide ((t.getD i default).d ≤ if i = 0 then 0 else (t.getD (i - 1) default).d + 1)
theorem stepA_iff : ∀ {t : List Ln} {n : Int}, stepA n t = true ↔ ∀ i, i < t.length → soundB (t.getD i default) = true ∧ (t.getD i default).d ≤ if i = 0 then n else (t.getD (i - 1) default).d + 1
  | [], n => by simp [stepA]
  | l :: r, n => by
    have ih := stepA_iff (t := r) (n := l.d + 1)
    simp only [stepA, Bool.and_eq_true, decide_eq_true_eq, ih]
    constructor
    · rintro ⟨⟨h1, h2⟩, h3⟩ i hi
      cases i with
      | zero => exact ⟨h1, h2⟩
      | succ i =>
        obtain ⟨h4, h5⟩ := h3 i (by simpa using hi)
        refine ⟨h4, ?_⟩
        cases i with
        | zero => simpa using h5
        | succ i => simpa using h5
    · intro h
      have h0 := h 0 (by simp)
      refine ⟨⟨h0.1, h0.2⟩, fun i hi => ?_⟩
      obtain ⟨h4, h5⟩ := h (i + 1) (by simpa using hi)
      refine ⟨h4, ?_⟩
      cases i with
      | zero => simpa using h5
      | succ i => simpa using h5
theorem stepA_ok {t : List Ln} : stepA 0 t = true ↔ ∀ i, i < t.length → okL t i = true := by
  rw [stepA_iff]
  unfold okL
  simp only [Bool.and_eq_true, decide_eq_true_eq]
theorem fwAll_iff : ∀ {t : List Ln}, fwAll t = true ↔ ∀ i, i < t.length → fw (t.getD i default).d (t.getD i default).w (t.drop (i + 1)) = true
  | [] => by simp [fwAll]
  | l :: r => by
    have ih := fwAll_iff (t := r)
    simp only [fwAll, Bool.and_eq_true, ih]
    constructor
    · rintro ⟨h1, h2⟩ i hi
      cases i with
      | zero => simpa using h1
      | succ i => simpa using h2 i (by simpa using hi)
    · intro h
      exact ⟨by simpa using h 0 (by simp), fun i hi => by simpa using h (i + 1) (by simpa using hi)⟩
theorem fw_drop {d : Int} {w : Bs} {t : List Ln} {k : Nat} (h : k < t.length) : fw d w (t.drop k) = if (t.getD k default).d < d then true else !(decide ((t.getD k default).d = d) && leB (t.getD k default).w w) && fw d w (t.drop (k + 1)) := by
  rw [drop_getD h]; rfl
theorem right_no_step {t : List Ln} {i : Nat} (hi : i < t.length) (h : okL t i = false) : rightT t = false := by
  cases hr : rightT t with
  | false => rfl
  | true =>
    have := stepA_ok.1 ((right_iff2 t).1 hr).2.1 i hi
    rw [h] at this; cases this
theorem right_no_fw {t : List Ln} {i : Nat} (hi : i < t.length) (h : fw (t.getD i default).d (t.getD i default).w (t.drop (i + 1)) = false) : rightT t = false := by
  cases hr : rightT t with
  | false => rfl
  | true =>
    have := fwAll_iff.1 ((right_iff2 t).1 hr).2.2 i hi
    rw [h] at this; cases this
theorem right_yes {t : List Ln} (h : t.length ≤ 200) (h1 : ∀ i, i < t.length → okL t i = true) (h2 : ∀ i, i < t.length → fw (t.getD i default).d (t.getD i default).w (t.drop (i + 1)) = true) : rightT t = true :=
  (right_iff2 t).2 ⟨h, stepA_ok.2 h1, fwAll_iff.2 h2⟩
/-! ### The document's text -/
/-- Rows that close what ends, from a depth down. -/
def clN (n : Int) : Nat → Bs
  | 0 => []
  | k + 1 => (if n ≤ k then blanksB k ++ [125, 10] else []) ++ clN n k
theorem clN_none {n : Int} : ∀ {k : Nat}, (k : Int) ≤ n → clN n k = []
  | 0, _ => rfl
  | k + 1, h => by
    unfold clN
    rw [if_neg (by omega), clN_none (by omega)]; rfl
theorem clN_some {n : Nat} : ∀ {k : Nat}, clN n (n + k) = closedN n k
  | 0 => clN_none (by omega)
  | k + 1 => by
    rw [show n + (k + 1) = (n + k) + 1 by omega, clN, if_pos (by omega), clN_some, closedN]
theorem end_cl {d n : Int} (hd : 0 ≤ d) (hn : 0 ≤ n) : endB d n = (if d < n then [32, 123, 10] else [59, 10]) ++ clN n d.toNat := by
  unfold endB closedB
  split
  · rw [clN_none (by omega)]; rfl
  · have : clN n d.toNat = closedN n.toNat (d - n).toNat := by
      rw [← clN_some]
      rw [show ((n.toNat : Nat) : Int) = n by omega, show n.toNat + (d - n).toNat = d.toNat by omega]
    rw [this]; rfl
/-- Steps of a tree's depth. -/
theorem right_step {t : List Ln} (h : rightT t = true) {i : Nat} (hi : i + 1 < t.length) : (t.getD (i + 1) default).d ≤ (t.getD i default).d + 1 := by
  have := (stepA_iff.1 ((right_iff2 t).1 h).2.1 (i + 1) hi).2
  simpa using this
theorem right_zero {t : List Ln} (h : rightT t = true) (hi : 0 < t.length) : (t.getD 0 default).d = 0 := by
  have h1 := (stepA_iff.1 ((right_iff2 t).1 h).2.1 0 hi)
  have h2 := ((sound_iff _).1 h1.1).1.1
  have h3 := h1.2
  simp only [if_true] at h3
  omega
theorem endN_next {t : List Ln} {i : Nat} (h : i < t.length) : (i + 1 < endN t i ↔ i + 1 < t.length ∧ (t.getD i default).d < (t.getD (i + 1) default).d) := by
  obtain ⟨e1, e2, e3, e4⟩ := endN_spec h
  constructor
  · intro q
    refine ⟨by omega, ?_⟩
    have hm : t.getD (i + 1) default ∈ (t.take (endN t i)).drop (i + 1) := by
      have hx : ((t.take (endN t i)).drop (i + 1)).getD 0 default = t.getD (i + 1) default := by
        rw [getD_drop, List.getD_eq_getElem?_getD, List.getElem?_take_of_lt (by omega), ← List.getD_eq_getElem?_getD]
      rw [← hx]
      exact mem_getD (by simp; omega)
    exact e3 _ hm
  · rintro ⟨q1, q2⟩
    by_cases e : endN t i = i + 1
    · rw [e] at e4
      rcases e4 with e4 | e4
      · omega
      · exact absurd q2 e4
    · omega
/-- A part ends behind a line if what stands behind is no deeper than its head. -/
theorem endN_at {t : List Ln} {k i : Nat} (hk : k ≤ i) (hi : i < t.length) (h : ∀ j, k < j → j ≤ i → (t.getD k default).d < (t.getD j default).d) :
    (endN t k = i + 1 ↔ ¬ (i + 1 < t.length ∧ (t.getD k default).d < (t.getD (i + 1) default).d)) := by
  obtain ⟨e1, e2, e3, e4⟩ := endN_spec (t := t) (i := k) (by omega)
  have hmem : ∀ j, k < j → j < endN t k → (t.getD k default).d < (t.getD j default).d := fun j hj1 hj2 => by
    refine e3 _ ?_
    have hx : ((t.take (endN t k)).drop (k + 1)).getD (j - (k + 1)) default = t.getD j default := by
      rw [getD_drop, show k + 1 + (j - (k + 1)) = j by omega, List.getD_eq_getElem?_getD, List.getElem?_take_of_lt (by omega), ← List.getD_eq_getElem?_getD]
    rw [← hx]
    exact mem_getD (by simp; omega)
  constructor
  · rintro q ⟨q1, q2⟩
    rw [q] at e4
    rcases e4 with e4 | e4
    · omega
    · exact e4 q2
  · intro q
    have h1 : i + 1 ≤ endN t k := by
      rcases Nat.lt_or_ge (endN t k) (i + 1) with hlt | hge
      · exfalso
        rcases e4 with e4 | e4
        · omega
        · exact e4 (h _ (by omega) (by omega))
      · exact hge
    rcases Nat.lt_or_ge (i + 1) (endN t k) with hlt | hge
    · exact absurd ⟨by omega, hmem (i + 1) (by omega) hlt⟩ q
    · omega
/-- The text up to a place. -/
theorem text_end {t : List Ln} {i : Nat} (hs : ∀ l ∈ t, soundB l = true) (h : i < t.length) : textT (t.drop i) = lineB (t.getD i default) ++ ((if (t.getD i default).d < nextD (t.drop (i + 1)) then [32, 123, 10] else [59, 10]) ++ clN (nextD (t.drop (i + 1))) (t.getD i default).d.toNat) ++ textT (t.drop (i + 1)) := by
  rw [text_drop h, end_cl ((sound_iff _).1 (hs _ (mem_getD h))).1.1 (nextD_nonneg fun l hl => hs l (List.mem_of_mem_drop hl))]
theorem clN_len (n : Int) : ∀ k : Nat, k ≤ 16 → (clN n k).length ≤ 40 * k
  | 0, _ => by simp [clN]
  | k + 1, h => by
    have := clN_len n k (by omega)
    unfold clN
    split
    · simp only [List.length_append, blanks_len, List.length_cons, List.length_nil]; omega
    · simp only [List.nil_append]; omega
end Go.Fs
