/- Rows of a tree's text; its bytes; its parts of depth 0; a mark more. -/
import Derived.Test.YtjjjgagmknlpmaaTR4
set_option linter.all false
namespace Go.Fs
inductive RowsT : Bs → Nat → Prop
  | nil : RowsT [] 0
  | cons (x : Bs) (e : UInt8) (s : Bs) (n : Nat) : (∀ c ∈ x, c ≠ 10) → (e = 59 ∨ e = 123 ∨ e = 125) → RowsT s n → RowsT (x ++ e :: 10 :: s) (n + 1)
theorem rows_closed {s : Bs} {m : Nat} (h : RowsT s m) : ∀ (n k : Nat), RowsT (closedN n k ++ s) (k + m)
  | n, 0 => by simpa [closedN] using h
  | n, k + 1 => by
    have ih := rows_closed h n k
    have : closedN n (k + 1) ++ s = blanksB (n + k) ++ 125 :: 10 :: (closedN n k ++ s) := by simp [closedN]
    rw [this, show k + 1 + m = (k + m) + 1 by omega]
    refine .cons _ _ _ _ (fun c hc => ?_) (.inr (.inr rfl)) ih
    rw [(List.mem_replicate.1 hc).2]; decide
theorem seen_not10 {c : UInt8} (h : seenB c = true) : c ≠ 10 := by
  rintro rfl; revert h; decide
theorem marks_seen (i p : Bool) : (marks2 i p).all seenB = true := by cases i <;> cases p <;> decide
theorem line_seen (l : Ln) : (lineB l).all seenB = true := by
  have h1 : (blanksB l.d.toNat).all seenB = true := List.all_eq_true.2 fun c hc => by rw [(List.mem_replicate.1 hc).2]; decide
  unfold lineB
  rw [marks2_eq, List.all_append, List.all_append, h1, marks_seen, quote_seen]; rfl
def rowsN : List Ln → Nat
  | [] => 0
  | l :: r => 1 + (if l.d < nextD r then 0 else (l.d - nextD r).toNat) + rowsN r
theorem rows_text : ∀ t : List Ln, RowsT (textT t) (rowsN t)
  | [] => .nil
  | l :: r => by
    have ih := rows_text r
    have hs := List.all_eq_true.1 (line_seen l)
    unfold textT rowsN endB
    by_cases h : l.d < nextD r
    · rw [if_pos h, if_pos h, show 1 + 0 + rowsN r = rowsN r + 1 by omega]
      have : lineB l ++ [32, 123, 10] ++ textT r = (lineB l ++ [32]) ++ 123 :: 10 :: textT r := by simp
      rw [this]
      refine .cons _ _ _ _ (fun c hc => ?_) (.inr (.inl rfl)) ih
      rcases List.mem_append.1 hc with hc | hc
      · exact seen_not10 (hs c hc)
      · simp at hc; rw [hc]; decide
    · rw [if_neg h, if_neg h, show 1 + (l.d - nextD r).toNat + rowsN r = ((l.d - nextD r).toNat + rowsN r) + 1 by omega]
      have : lineB l ++ (59 :: 10 :: closedB l.d (nextD r)) ++ textT r = lineB l ++ 59 :: 10 :: (closedN (nextD r).toNat (l.d - nextD r).toNat ++ textT r) := by simp [closedB]
      rw [this]
      exact .cons _ _ _ _ (fun c hc => seen_not10 (hs c hc)) (.inl rfl) (rows_closed ih _ _)
def cntT (s : Bs) : Nat := (s.filter fun c => c == 10).length
theorem cnt_snoc (s : Bs) (c : UInt8) : cntT (s ++ [c]) = cntT s + (if c = 10 then 1 else 0) := by
  unfold cntT
  rw [List.filter_append, List.length_append]
  by_cases h : c = 10 <;> simp [h]
theorem cnt_le (s : Bs) : cntT s ≤ s.length := List.length_filter_le _ _
theorem rows_cnt {s : Bs} {n : Nat} (h : RowsT s n) : cntT s = n := by
  induction h with
  | nil => rfl
  | cons x e s n h1 h2 _ ih =>
    have hx : x.filter (fun c => c == 10) = [] := by
      rw [List.filter_eq_nil_iff]; intro c hc; simpa using h1 c hc
    have he : (e == 10) = false := by rcases h2 with rfl | rfl | rfl <;> decide
    unfold cntT at ih ⊢
    rw [List.filter_append, hx, List.filter_cons, he, List.filter_cons]
    simp [ih]
theorem rows_before {s : Bs} {n : Nat} (h : RowsT s n) : ∀ i, i < s.length → s.getD i 0 = 10 → 0 < i ∧ (s.getD (i - 1) 0 = 59 ∨ s.getD (i - 1) 0 = 123 ∨ s.getD (i - 1) 0 = 125) := by
  induction h with
  | nil => intro i hi; simp at hi
  | cons x e s n h1 h2 _ ih =>
    intro i hi hc
    have gl : ∀ j, j < x.length → (x ++ e :: 10 :: s).getD j 0 = x.getD j 0 := fun j hj => by
      rw [List.getD_eq_getElem?_getD, List.getElem?_append_left hj, ← List.getD_eq_getElem?_getD]
    have gr : ∀ j, (x ++ e :: 10 :: s).getD (x.length + j) 0 = (e :: 10 :: s).getD j 0 := fun j => by
      rw [List.getD_eq_getElem?_getD, List.getElem?_append_right (by omega), Nat.add_sub_cancel_left, ← List.getD_eq_getElem?_getD]
    rcases Nat.lt_or_ge i x.length with h | h
    · rw [gl i h] at hc
      exfalso
      refine h1 (x.getD i 0) ?_ hc
      rw [List.getD_eq_getElem?_getD, List.getElem?_eq_getElem h]; exact List.getElem_mem h
    · obtain ⟨j, rfl⟩ : ∃ j, i = x.length + j := ⟨i - x.length, by omega⟩
      rw [gr] at hc
      match j with
      | 0 =>
        exfalso
        have : e = 10 := by simpa using hc
        subst this
        rcases h2 with h | h | h <;> exact absurd h (by decide)
      | 1 =>
        refine ⟨by omega, ?_⟩
        have : (x ++ e :: 10 :: s).getD (x.length + 1 - 1) 0 = e := gr 0
        rw [this]; exact h2
      | j + 2 =>
        have hj : j < s.length := by simp at hi; omega
        obtain ⟨h3, h4⟩ := ih j hj (by simpa using hc)
        refine ⟨by omega, ?_⟩
        have : (x ++ e :: 10 :: s).getD (x.length + (j + 2) - 1) 0 = s.getD (j - 1) 0 := by
          rw [show x.length + (j + 2) - 1 = x.length + ((j - 1) + 2) by omega, gr]; simp
        rw [this]; exact h4
theorem rows_last {s : Bs} {n : Nat} (h : RowsT s n) : s = [] ∨ s.getD (s.length - 1) 0 = 10 := by
  induction h with
  | nil => exact .inl rfl
  | cons x e s n h1 h2 _ ih =>
    right
    rcases ih with rfl | ih
    · rw [List.getD_eq_getElem?_getD, List.getElem?_append_right (by simp)]; simp
    · by_cases hs : s = []
      · subst hs; rw [List.getD_eq_getElem?_getD, List.getElem?_append_right (by simp)]; simp
      · have hl : 0 < s.length := List.length_pos_iff.2 hs
        have e1 : (x ++ e :: 10 :: s).length - 1 = x.length + ((s.length - 1) + 2) := by simp; omega
        rw [e1, List.getD_eq_getElem?_getD, List.getElem?_append_right (by omega), Nat.add_sub_cancel_left]
        simpa [List.getD_eq_getElem?_getD] using ih
/-! ### How many -/
def leavesN : List Ln → Nat
  | [] => 0
  | l :: r => (if l.d < nextD r then 0 else 1) + leavesN r
theorem leavesT_len : ∀ t : List Ln, (∀ l ∈ t, soundB l = true) → (leavesT t).length = leavesN t
  | [], _ => rfl
  | l :: r, h => by
    have ih := leavesT_len r fun x hx => h x (by simp [hx])
    have hd := ((sound_iff l).1 (h l (by simp))).1.1
    unfold leavesT at ih ⊢
    rw [List.length_map] at ih ⊢
    have h0 : leafB (l :: r) 0 = !decide (l.d < nextD r) := by
      unfold leafB
      cases r with
      | nil =>
        have : ¬ l.d < 0 := by omega
        simp [nextD, this]
      | cons y r =>
        have en : nextD (y :: r) = y.d := rfl
        rw [en, Bool.eq_iff_iff]
        simp only [List.length_cons, List.getD_cons_succ, List.getD_cons_zero]
        simp
    have hs : ∀ i, leafB (l :: r) (i + 1) = leafB r i := fun i => by simp [leafB]
    rw [List.length_cons, List.range_succ_eq_map, List.filter_cons, List.filter_map, h0]
    have : ((fun i => leafB (l :: r) i) ∘ Nat.succ) = fun i => leafB r i := funext fun i => hs i
    rw [this]
    unfold leavesN
    rw [← ih]
    by_cases q : l.d < nextD r <;> simp [q]; omega
theorem next_le {l : Ln} {r : List Ln} {st : List Bs} (h : goS st (l :: r) = true) : nextD r ≤ l.d + 1 := by
  simp only [goS, Bool.and_eq_true, decide_eq_true_eq] at h
  have hs := (sound_iff l).1 h.1.1.1
  cases r with
  | nil => simp only [nextD]; omega
  | cons y r =>
    have := h.2
    simp only [goS, Bool.and_eq_true, decide_eq_true_eq, List.length_append, List.length_take, List.length_singleton] at this
    have := this.1.1.2
    simp only [nextD]; omega
theorem rows_leaves : ∀ {t : List Ln} {st : List Bs}, goS st t = true → ((rowsN t : Nat) : Int) + leavesN t = 2 * t.length + nextD t
  | [], _, _ => rfl
  | l :: r, st, h => by
    have hn := next_le h
    have hd := ((sound_iff l).1 (goS_sound h l (by simp))).1.1
    have hnn := nextD_nonneg (t := r) fun x hx => goS_sound h x (by simp [hx])
    have h2 := h
    simp only [goS, Bool.and_eq_true] at h2
    have ih := rows_leaves h2.2
    unfold rowsN leavesN
    simp only [List.length_cons]
    have e : nextD (l :: r) = l.d := rfl
    rw [e]
    by_cases q : l.d < nextD r
    · rw [if_pos q, if_pos q]; omega
    · rw [if_neg q, if_neg q]; omega
theorem right_first {t : List Ln} (h : goS [] t = true) : nextD t = 0 := by
  cases t with
  | nil => rfl
  | cons l r =>
    simp only [goS, Bool.and_eq_true, decide_eq_true_eq, List.length_nil] at h
    have := ((sound_iff l).1 h.1.1.1).1.1
    have := h.1.1.2
    simp only [nextD]; omega
theorem rows_all {t : List Ln} (h : rightT t = true) : ((cntT (textT t) : Nat) : Int) = 2 * t.length - (leavesT t).length := by
  obtain ⟨hl, hg⟩ := right_len h
  rw [rows_cnt (rows_text t), leavesT_len t (goS_sound hg)]
  have := rows_leaves hg
  rw [right_first hg] at this
  omega
/-! ### Bytes -/
theorem closedN_bytes (n : Nat) : ∀ k, ∀ c ∈ closedN n k, c = 10 ∨ seenB c = true
  | 0, c, h => by simp [closedN] at h
  | k + 1, c, h => by
    simp only [closedN, List.mem_append] at h
    rcases h with (h | h) | h
    · right; rw [(List.mem_replicate.1 h).2]; decide
    · simp only [List.mem_cons, List.not_mem_nil, or_false] at h
      rcases h with rfl | rfl
      · right; decide
      · left; rfl
    · exact closedN_bytes n k c h
theorem text_bytes : ∀ (t : List Ln), ∀ c ∈ textT t, c = 10 ∨ seenB c = true
  | [], c, h => by simp [textT] at h
  | l :: r, c, h => by
    simp only [textT, List.mem_append] at h
    rcases h with (h | h) | h
    · right; exact List.all_eq_true.1 (line_seen l) c h
    · unfold endB at h
      split at h
      · simp only [List.mem_cons, List.not_mem_nil, or_false] at h
        rcases h with rfl | rfl | rfl
        · right; decide
        · right; decide
        · left; rfl
      · simp only [List.mem_cons] at h
        rcases h with rfl | rfl | h
        · right; decide
        · left; rfl
        · exact closedN_bytes _ _ c h
    · exact text_bytes r c h
/-! ### Parts of depth 0 -/
theorem text_append : ∀ {a b : List Ln}, nextD b = 0 → textT (a ++ b) = textT a ++ textT b
  | [], b, _ => rfl
  | l :: a, b, h => by
    have hn : nextD (a ++ b) = nextD a := by
      cases a with
      | nil => exact h
      | cons x a => rfl
    simp only [List.cons_append, textT, hn, text_append (a := a) h, List.append_assoc]
theorem shL_zero (l : Ln) : shL 0 l = l := by cases l; simp [shL]
theorem sub_zero {t : List Ln} {k : Nat} (h : (t.getD k default).d = 0) : subT t k = (t.take (endN t k)).drop k := by
  rw [subT_eq, h]
  have : (shL 0) = id := funext shL_zero
  rw [this, List.map_id]
/-- The texts of the parts of depth 0 from a place on. -/
theorem kids_text {t : List Ln} (hs : ∀ l ∈ t, soundB l = true) : ∀ (m k : Nat), t.length - k = m → k ≤ t.length → (k = t.length ∨ (t.getD k default).d = 0) →
    ((List.range' k (t.length - k)).filter (kidB t)).flatMap (fun i => textT (subT t i)) = textT (t.drop k) := by
  intro m
  induction m using Nat.strongRecOn with
  | _ m ih =>
    intro k hm hk h0
    by_cases hkl : k = t.length
    · subst hkl; rw [Nat.sub_self, List.drop_length]; rfl
    have h0 := h0.resolve_left hkl
    obtain ⟨e1, e2, e3, e4⟩ := endN_spec (t := t) (i := k) (by omega)
    have hge : ∀ j, j < t.length → 0 ≤ (t.getD j default).d := fun j hj => ((sound_iff _).1 (hs _ (mem_getD hj))).1.1
    have e5 : endN t k = t.length ∨ (t.getD (endN t k) default).d = 0 := by
      by_cases q : endN t k = t.length
      · exact .inl q
      · have := e4.resolve_left q
        have := hge (endN t k) (by omega)
        right; omega
    have hI := ih (t.length - endN t k) (by omega) (endN t k) rfl e2 e5
    have hr : List.range' k (t.length - k) = k :: (List.range' (k + 1) (endN t k - (k + 1)) ++ List.range' (endN t k) (t.length - endN t k)) := by
      rw [show t.length - k = (t.length - (k + 1)) + 1 by omega, List.range'_succ]
      congr 1
      rw [show List.range' (endN t k) (t.length - endN t k) = List.range' (k + 1 + (endN t k - (k + 1))) (t.length - endN t k) by congr 1; omega, List.range'_append_1]
      congr 1; omega
    have hmid : (List.range' (k + 1) (endN t k - (k + 1))).filter (kidB t) = [] := by
      rw [List.filter_eq_nil_iff]
      intro j hj
      rw [List.mem_range'_1] at hj
      have hm : t.getD j default ∈ (t.take (endN t k)).drop (k + 1) := by
        have hx : ((t.take (endN t k)).drop (k + 1)).getD (j - (k + 1)) default = t.getD j default := by
          rw [getD_drop, show k + 1 + (j - (k + 1)) = j by omega, List.getD_eq_getElem?_getD, List.getElem?_take_of_lt (by omega), ← List.getD_eq_getElem?_getD]
        rw [← hx]
        exact mem_getD (by simp; omega)
      have := e3 _ hm
      unfold kidB
      rw [decide_eq_true_eq]; omega
    have hk1 : kidB t k = true := decide_eq_true h0
    rw [hr, List.filter_cons, hk1, if_pos rfl, List.filter_append, hmid, List.nil_append, List.flatMap_cons, hI, sub_zero h0, ← text_append]
    · congr 1
      conv => rhs; rw [← List.take_append_drop (endN t k) t]
      rw [List.drop_append_of_le_length (by simp; omega)]
    · rw [nextD_drop]
      split
      · rename_i q; exact e5.resolve_left (by omega)
      · rfl
theorem kids_all {t : List Ln} (h : rightT t = true) : (kidsT t).flatMap (fun i => textT (subT t i.toNat)) = textT t := by
  obtain ⟨hl, hg⟩ := right_len h
  have h0 : 0 = t.length ∨ (t.getD 0 default).d = 0 := by
    have := right_first hg
    cases t with
    | nil => exact .inl rfl
    | cons l r => right; exact this
  have := kids_text (goS_sound hg) t.length 0 (by omega) (Nat.zero_le _) h0
  rw [Nat.sub_zero, List.drop_zero, ← List.range_eq_range'] at this
  rw [← this]
  have e : kidsT t = ((List.range t.length).filter (kidB t)).map fun (i : Nat) => (i : Int) := rfl
  rw [e, List.flatMap_map]
  rfl
theorem kids_lt {t : List Ln} {i : Int} (h : i ∈ kidsT t) : 0 ≤ i ∧ i < t.length := by
  have e : kidsT t = ((List.range t.length).filter (kidB t)).map fun (i : Nat) => (i : Int) := rfl
  rw [e, List.mem_map] at h
  obtain ⟨j, hj, rfl⟩ := h
  have := List.mem_range.1 ((List.mem_filter.1 hj).1)
  omega
/-! ### A mark more -/
def mkL (l : Ln) (m : Int) : Ln := ⟨l.d, l.w, m⟩
def mkM (t : List Ln) (k : Nat) (m : Int) : List Ln := t.set k (mkL (t.getD k default) m)
theorem mkM_len (t : List Ln) (k : Nat) (m : Int) : (mkM t k m).length = t.length := by simp [mkM]
theorem mkM_get {t : List Ln} {k x : Nat} {m : Int} (h : x < t.length) : (mkM t k m).getD x default = if x = k then mkL (t.getD x default) m else t.getD x default := by
  unfold mkM
  rw [List.getD_eq_getElem?_getD, List.getElem?_set]
  by_cases q : k = x
  · subst q; simp [h]
  · rw [if_neg q, if_neg (fun e => q e.symm), List.getD_eq_getElem?_getD]
theorem mkM_succ (l : Ln) (r : List Ln) (k : Nat) (m : Int) : mkM (l :: r) (k + 1) m = l :: mkM r k m := by simp [mkM]
theorem mkM_zero (l : Ln) (r : List Ln) (m : Int) : mkM (l :: r) 0 m = mkL l m :: r := by simp [mkM]
theorem mkM_goS : ∀ {t : List Ln} {st : List Bs} {k : Nat} {m : Int}, 0 ≤ m → m ≤ 3 → goS st t = true → goS st (mkM t k m) = true
  | [], _, _, _, _, _, _ => by simp [mkM, goS]
  | l :: r, st, 0, m, h1, h2, h => by
    rw [mkM_zero]
    simp only [goS, Bool.and_eq_true] at h ⊢
    have hs := (sound_iff l).1 h.1.1.1
    exact ⟨⟨⟨(sound_iff _).2 ⟨hs.1, hs.2.1, h1, h2⟩, h.1.1.2⟩, h.1.2⟩, h.2⟩
  | l :: r, st, k + 1, m, h1, h2, h => by
    rw [mkM_succ]
    simp only [goS, Bool.and_eq_true] at h ⊢
    exact ⟨h.1, mkM_goS h1 h2 h.2⟩
theorem mkM_right {t : List Ln} {k : Nat} {m : Int} (h1 : 0 ≤ m) (h2 : m ≤ 3) (h : rightT t = true) : rightT (mkM t k m) = true := by
  obtain ⟨hl, hg⟩ := right_len h
  unfold rightT
  rw [mkM_len, decide_eq_true hl, mkM_goS h1 h2 hg]; rfl
theorem mkM_next (t : List Ln) (k : Nat) (m : Int) : nextD (mkM t k m) = nextD t := by
  cases t with
  | nil => rfl
  | cons l r => cases k with
    | zero => rw [mkM_zero]; rfl
    | succ k => rw [mkM_succ]; rfl
theorem mkM_text : ∀ {t : List Ln} {k : Nat} {m m' : Int}, k < t.length → (textT (mkM t k m)).length + (marksB m').length = (textT (mkM t k m')).length + (marksB m).length
  | [], _, _, _, h => by simp at h
  | l :: r, 0, m, m', _ => by
    rw [mkM_zero, mkM_zero]
    simp only [textT, lineB, mkL, List.length_append]; omega
  | l :: r, k + 1, m, m', h => by
    have ih := mkM_text (t := r) (k := k) (m := m) (m' := m') (by simpa using h)
    rw [mkM_succ, mkM_succ]
    simp only [textT, mkM_next, List.length_append]; omega
theorem mark_more {t : List Ln} {k : Nat} (h : k < t.length) : (textT (mkM t k 1)).length = (textT (mkM t k 0)).length + 10 ∧ (textT (mkM t k 3)).length = (textT (mkM t k 1)).length + 9 := by
  have h1 := mkM_text (m := 1) (m' := 0) h
  have h2 := mkM_text (m := 3) (m' := 1) h
  have e0 : (marksB 0).length = 0 := rfl
  have e1 : (marksB 1).length = 10 := rfl
  have e3 : (marksB 3).length = 19 := rfl
  omega
end Go.Fs
