/- Unlike trees have unlike texts. -/
import Derived.Test.YtjjjgagmknlpmaaTR3
set_option linter.all false
namespace Go.Fs
theorem blanks_succ (n : Nat) : blanksB (n + 1) = 32 :: 32 :: blanksB n := by
  unfold blanksB
  rw [show 2 * (n + 1) = 2 * n + 1 + 1 by omega, List.replicate_succ, List.replicate_succ]
theorem lead : ∀ {n n' : Nat} {c c' : UInt8} {Y Y' : Bs}, blanksB n ++ c :: Y = blanksB n' ++ c' :: Y' → c ≠ 32 → c' ≠ 32 → n = n' ∧ c :: Y = c' :: Y'
  | 0, 0, _, _, _, _, h, _, _ => ⟨rfl, h⟩
  | 0, n + 1, c, c', Y, Y', h, hc, _ => by
    rw [blanks_succ] at h
    have : c = 32 := by simpa [blanksB] using (List.cons.inj h).1
    exact absurd this hc
  | n + 1, 0, c, c', Y, Y', h, _, hc => by
    rw [blanks_succ] at h
    have : c' = 32 := by simpa [blanksB] using (List.cons.inj h).1.symm
    exact absurd this hc
  | n + 1, n' + 1, c, c', Y, Y', h, h1, h2 => by
    rw [blanks_succ, blanks_succ] at h
    simp only [List.cons_append, List.cons.injEq, true_and] at h
    obtain ⟨h3, h4⟩ := lead h h1 h2
    exact ⟨by omega, h4⟩
theorem quote_first (w : Bs) : ∃ c Y, quoteT w = c :: Y ∧ c ≠ 32 ∧ c ≠ 125 := by
  unfold quoteT
  split
  · rename_i h
    obtain ⟨hb, hn⟩ := word_bare h
    cases w with
    | nil => exact absurd rfl hn
    | cons c w =>
      have hc := List.all_eq_true.1 hb c (by simp)
      refine ⟨c, w, rfl, (bare_facts c hc).2.1, ?_⟩
      rintro rfl
      revert hc; decide
  · exact ⟨34, _, rfl, by decide, by decide⟩
def marks2 (i p : Bool) : Bs := (if i = true then inactB else []) ++ (if p = true then protB else [])
theorem marks2_eq (m : Int) : marksB m = marks2 (decide (m % 2 = 1)) (decide (1 < m)) := by
  unfold marksB marks2
  simp only [decide_eq_true_eq]
theorem body_first (i p : Bool) (w Z : Bs) : ∃ c Y, marks2 i p ++ (quoteT w ++ Z) = c :: Y ∧ c ≠ 32 ∧ c ≠ 125 := by
  obtain ⟨c, Y, h, h1, h2⟩ := quote_first w
  cases i with
  | true => exact ⟨105, _, rfl, by decide, by decide⟩
  | false =>
    cases p with
    | true => exact ⟨112, _, rfl, by decide, by decide⟩
    | false => exact ⟨c, Y ++ Z, by rw [h]; rfl, h1, h2⟩
def tokB (X : Bs) : Option Bs := (scanE X).map fun n => X.take n
theorem tok_quote (w : Bs) {Z : Bs} (h : ∀ c ∈ Z.head?, bareB c = false) : tokB (quoteT w ++ Z) = some (quoteT w) := by
  unfold tokB
  rw [scan_quote w Z h, Option.map_some, List.take_left']
  rfl
def inactW : Bs := [105, 110, 97, 99, 116, 105, 118, 101, 58]
def protW : Bs := [112, 114, 111, 116, 101, 99, 116, 58]
theorem tok_inact (Z : Bs) : tokB (inactB ++ Z) = some inactW := by
  have h : inactB ++ Z = 105 :: ([110, 97, 99, 116, 105, 118, 101, 58] ++ 32 :: Z) := rfl
  have hr : bareN (inactW ++ 32 :: Z) = inactW.length := run_all (by decide) (by simp; decide)
  have hr2 : bareN (105 :: ([110, 97, 99, 116, 105, 118, 101, 58] ++ 32 :: Z)) = 9 := hr
  unfold tokB
  rw [h]
  simp only [scanE]
  rw [hr2]
  rfl
theorem tok_prot (Z : Bs) : tokB (protB ++ Z) = some protW := by
  have h : protB ++ Z = 112 :: ([114, 111, 116, 101, 99, 116, 58] ++ 32 :: Z) := rfl
  have hr : bareN (protW ++ 32 :: Z) = protW.length := run_all (by decide) (by simp; decide)
  have hr2 : bareN (112 :: ([114, 111, 116, 101, 99, 116, 58] ++ 32 :: Z)) = 8 := hr
  unfold tokB
  rw [h]
  simp only [scanE]
  rw [hr2]
  rfl
theorem quote_not_mark {w u : Bs} (hm : markC u = true) (hb : u.all bareB = true) : quoteT w ≠ u := by
  unfold quoteT
  split
  · rename_i h
    rintro rfl
    rw [wordC, hm] at h; simp at h
  · rintro rfl
    simp only [List.all_cons, Bool.and_eq_true] at hb
    revert hb; intro hb
    exact absurd hb.1 (by decide)
theorem marks2_inj {i p i' p' : Bool} {w w' Z Z' : Bs} (hZ : ∀ c ∈ Z.head?, bareB c = false) (hZ' : ∀ c ∈ Z'.head?, bareB c = false)
    (h : marks2 i p ++ (quoteT w ++ Z) = marks2 i' p' ++ (quoteT w' ++ Z')) : i = i' ∧ p = p' ∧ w = w' ∧ Z = Z' := by
  have q1 := fun w => quote_not_mark (w := w) (u := inactW) (by decide) (by decide)
  have q2 := fun w => quote_not_mark (w := w) (u := protW) (by decide) (by decide)
  have q3 : inactW ≠ protW := by decide
  have ti : ∀ (p : Bool) (X : Bs), tokB (marks2 true p ++ X) = some inactW := fun p X => by
    have : marks2 true p ++ X = inactB ++ ((if p = true then protB else []) ++ X) := by unfold marks2; rw [if_pos rfl, List.append_assoc]
    rw [this, tok_inact]
  have tp : ∀ (X : Bs), tokB (marks2 false true ++ X) = some protW := fun X => tok_prot X
  have tq : ∀ (w Z : Bs), (∀ c ∈ Z.head?, bareB c = false) → tokB (marks2 false false ++ (quoteT w ++ Z)) = some (quoteT w) := fun w Z hz => tok_quote w hz
  have hk := congrArg tokB h
  have hi : i = i' ∧ p = p' := by
    cases i <;> cases i' <;> cases p <;> cases p' <;> simp only [ti, tp, tq _ _ hZ, tq _ _ hZ', Option.some.injEq] at hk <;>
      first
      | exact ⟨rfl, rfl⟩
      | exact absurd hk q3
      | exact absurd hk.symm q3
      | exact absurd hk (q1 _)
      | exact absurd hk.symm (q1 _)
      | exact absurd hk (q2 _)
      | exact absurd hk.symm (q2 _)
      | skip
    all_goals
      simp only [marks2, if_true, Bool.false_eq_true, if_false, List.append_nil, List.append_assoc, List.nil_append] at h
      have h2 := List.append_cancel_left h
      have hk2 := congrArg tokB h2
      simp only [tok_prot, tok_quote _ hZ, tok_quote _ hZ', Option.some.injEq] at hk2
      first
      | exact absurd hk2 (q2 _)
      | exact absurd hk2.symm (q2 _)
  obtain ⟨rfl, rfl⟩ := hi
  have h2 := List.append_cancel_left h
  have hk2 := congrArg tokB h2
  rw [tok_quote _ hZ, tok_quote _ hZ', Option.some.injEq] at hk2
  rw [hk2] at h2
  exact ⟨rfl, rfl, quote_inj hk2, List.append_cancel_left h2⟩
def startsAt (n : Nat) (X : Bs) : Prop := (X = [] ∧ n = 0) ∨ ∃ c Y, X = blanksB n ++ c :: Y ∧ c ≠ 32 ∧ c ≠ 125
theorem closedN_inj : ∀ {k k' n n' : Nat} {X X' : Bs}, n + k = n' + k' → startsAt n X → startsAt n' X' → closedN n k ++ X = closedN n' k' ++ X' → X = X'
  | 0, 0, _, _, _, _, _, _, _, h => h
  | 0, k' + 1, n, n', X, X', e, s, _, h => by
    simp only [closedN, List.nil_append, List.append_assoc, List.cons_append] at h
    exfalso
    rcases s with ⟨rfl, -⟩ | ⟨c, Y, rfl, h1, h2⟩
    · have := congrArg List.length h; simp at this
    · have := (lead h h1 (by decide)).1; omega
  | k + 1, 0, n, n', X, X', e, _, s, h => by
    simp only [closedN, List.nil_append, List.append_assoc, List.cons_append] at h
    exfalso
    rcases s with ⟨rfl, -⟩ | ⟨c, Y, rfl, h1, h2⟩
    · have := congrArg List.length h; simp at this
    · have := (lead h.symm h1 (by decide)).1; omega
  | k + 1, k' + 1, n, n', X, X', e, s, s', h => by
    have e2 : n + k = n' + k' := by omega
    simp only [closedN, List.append_assoc] at h
    rw [e2] at h
    have h2 := List.append_cancel_left h
    exact closedN_inj e2 s s' (List.append_cancel_left h2)
theorem text_cons (l : Ln) (r : List Ln) : textT (l :: r) = blanksB l.d.toNat ++ (marks2 (decide (l.m % 2 = 1)) (decide (1 < l.m)) ++ (quoteT l.w ++ (endB l.d (nextD r) ++ textT r))) := by
  simp only [textT, lineB, marks2_eq, List.append_assoc]
theorem text_start {t : List Ln} (h : ∀ l ∈ t, soundB l = true) : startsAt (nextD t).toNat (textT t) := by
  cases t with
  | nil => exact .inl ⟨rfl, rfl⟩
  | cons l r =>
    right
    rw [text_cons]
    obtain ⟨c, Y, h1, h2, h3⟩ := body_first (decide (l.m % 2 = 1)) (decide (1 < l.m)) l.w (endB l.d (nextD r) ++ textT r)
    rw [h1]
    exact ⟨c, Y, rfl, h2, h3⟩
theorem end_head (d n : Int) (X : Bs) : ∀ c ∈ (endB d n ++ X).head?, bareB c = false := by
  unfold endB
  split
  · simp; decide
  · simp; decide
theorem text_inj : ∀ {a b : List Ln}, (∀ l ∈ a, soundB l = true) → (∀ l ∈ b, soundB l = true) → textT a = textT b → a = b
  | [], [], _, _, _ => rfl
  | [], l :: r, _, _, h => by
    rw [text_cons] at h
    obtain ⟨c, Y, h1, -⟩ := body_first (decide (l.m % 2 = 1)) (decide (1 < l.m)) l.w (endB l.d (nextD r) ++ textT r)
    rw [h1] at h
    have := congrArg List.length h; simp [textT] at this
  | l :: r, [], _, _, h => by
    rw [text_cons] at h
    obtain ⟨c, Y, h1, -⟩ := body_first (decide (l.m % 2 = 1)) (decide (1 < l.m)) l.w (endB l.d (nextD r) ++ textT r)
    rw [h1] at h
    have := congrArg List.length h; simp [textT] at this
  | l :: r, l' :: r', ha, hb, h => by
    rw [text_cons, text_cons] at h
    have sl := (sound_iff l).1 (ha l (by simp))
    have sl' := (sound_iff l').1 (hb l' (by simp))
    have hr : ∀ x ∈ r, soundB x = true := fun x hx => ha x (by simp [hx])
    have hr' : ∀ x ∈ r', soundB x = true := fun x hx => hb x (by simp [hx])
    have hn := nextD_nonneg hr
    have hn' := nextD_nonneg hr'
    have hs := text_start hr
    have hs' := text_start hr'
    have hh := end_head l.d (nextD r) (textT r)
    have hh' := end_head l'.d (nextD r') (textT r')
    obtain ⟨c, Y, h1, h2, h3⟩ := body_first (decide (l.m % 2 = 1)) (decide (1 < l.m)) l.w (endB l.d (nextD r) ++ textT r)
    obtain ⟨c', Y', h1', h2', h3'⟩ := body_first (decide (l'.m % 2 = 1)) (decide (1 < l'.m)) l'.w (endB l'.d (nextD r') ++ textT r')
    rw [h1, h1'] at h
    obtain ⟨e1, e2⟩ := lead h h2 h2'
    rw [← h1, ← h1'] at e2
    obtain ⟨e3, e4, e5, e6⟩ := marks2_inj hh hh' e2
    have ed : l.d = l'.d := by omega
    have em : l.m = l'.m := by
      rw [decide_eq_decide] at e3 e4
      omega
    have hl : l = l' := by cases l; cases l'; simp only at ed em e5; rw [ed, em, e5]
    have ht : textT r = textT r' := by
      rw [← ed] at e6
      unfold endB at e6
      by_cases q : l.d < nextD r
      · by_cases q' : l.d < nextD r'
        · rw [if_pos q, if_pos q'] at e6
          exact List.append_cancel_left e6
        · rw [if_pos q, if_neg q'] at e6
          have := (List.cons.inj e6).1
          exact absurd this (by decide)
      · by_cases q' : l.d < nextD r'
        · rw [if_neg q, if_pos q'] at e6
          have := (List.cons.inj e6).1
          exact absurd this (by decide)
        · rw [if_neg q, if_neg q'] at e6
          simp only [List.cons_append, List.cons.injEq, true_and] at e6
          exact closedN_inj (by omega) hs hs' e6
    rw [hl, text_inj hr hr' ht]
end Go.Fs
