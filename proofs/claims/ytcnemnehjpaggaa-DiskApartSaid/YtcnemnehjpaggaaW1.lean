/- The words of the document, as plain data: what is written, what is read. No program in sight. -/
set_option linter.all false
namespace Go.Fs
abbrev Bs := List UInt8

def hexB : Bs := [48, 49, 50, 51, 52, 53, 54, 55, 56, 57, 97, 98, 99, 100, 101, 102]
/-- A byte of a plain word. -/
def bareB (c : UInt8) : Bool := (97 ≤ c && c ≤ 122) || (65 ≤ c && c ≤ 90) || (48 ≤ c && c ≤ 57) || [45, 95, 46, 47, 58, 42].contains c
def bareN (s : Bs) : Nat := (s.takeWhile bareB).length
/-- A mark's word, or a comment's beginning. -/
def markC (s : Bs) : Bool := decide (s = [105, 110, 97, 99, 116, 105, 118, 101, 58]) || decide (s = [112, 114, 111, 116, 101, 99, 116, 58]) || (decide (2 ≤ s.length) && decide (s.take 2 = [47, 42]))
/-- All bytes are a plain word's, at least one; and no mark. -/
def wordC (s : Bs) : Bool := !decide (s = []) && s.all bareB && !markC s
def plainC (s : Bs) : Bool := decide (s.length ≤ 40) && wordC s
/-- A byte, as it is written between two ". -/
def escB (c : UInt8) : Bs := if c = 34 ∨ c = 92 then [92, c] else if 32 ≤ c ∧ c ≤ 126 then [c] else [92, 120, hexB.getD (c.toNat / 16) 0, hexB.getD (c.toNat % 16) 0]
def escs (s : Bs) : Bs := s.flatMap escB
/-- As it is written. -/
def quoteT (s : Bs) : Bs := if wordC s then s else 34 :: (escs s ++ [34])
def hexV (c : UInt8) : Int := if 48 ≤ c ∧ c ≤ 57 then c.toNat - 48 else if 97 ≤ c ∧ c ≤ 102 then c.toNat - 87 else -1

/-- Behind a ": how far the next one that counts is, with it. -/
def scanQ : Bs → Option Nat
  | [] => none
  | c :: r => if c = 92 then (match r with
      | [] => none
      | _ :: r' => (scanQ r').map (· + 2))
    else if c = 34 then some 1 else (scanQ r).map (· + 1)
def scanE : Bs → Option Nat
  | [] => none
  | c :: r => if c = 34 then (scanQ r).map (· + 1) else if bareN (c :: r) = 0 then none else some (bareN (c :: r))

def scanC (t : Bs) (a : Int) : Int × Bool := if 0 ≤ a ∧ a < t.length then (match scanE (t.drop a.toNat) with
  | some n => (a + n, true)
  | none => (0, false)) else (0, false)
/-- What is meant between two ". -/
def innerE : Bs → Option Bs
  | [] => some []
  | c :: r => if c = 34 ∨ c < 32 ∨ 126 < c then none else if c ≠ 92 then (innerE r).map (c :: ·) else match r with
    | [] => none
    | d :: r => if d = 34 ∨ d = 92 then (innerE r).map (d :: ·) else match r with
      | a :: b :: r => if d = 120 ∧ 0 ≤ hexV a ∧ 0 ≤ hexV b then (innerE r).map (UInt8.ofNat (16 * hexV a + hexV b).toNat :: ·) else none
      | _ => none
/-- The byte that a text between two such begins with, and how long that is. -/
def pieceE (t : Bs) : Int × Int := match t with
  | [] => (0, 0)
  | c :: r => if c = 34 ∨ c < 32 ∨ 126 < c then (0, 0) else if c ≠ 92 then ((c.toNat : Int), 1) else match r with
    | [] => (0, 0)
    | d :: r => if d = 34 ∨ d = 92 then ((d.toNat : Int), 2) else match r with
      | a :: b :: _ => if d = 120 ∧ 0 ≤ hexV a ∧ 0 ≤ hexV b then (16 * hexV a + hexV b, 4) else (0, 0)
      | _ => (0, 0)
/-- Is it a text between two "? -/
def quotedB (t : Bs) : Bool := decide (2 ≤ t.length) && decide (t.head? = some 34) && decide (t.getLast? = some 34)
/-- The word that is meant. -/
def readE (t : Bs) : Option Bs := if quotedB t then innerE ((t.drop 1).dropLast) else if wordC t then some t else none
def unquoteT (t : Bs) : Bs × Int := match readE t with
  | none => ([], 2)
  | some s => if 40 < s.length then ([], 5) else (s, 0)


/-! ### The equations -/
theorem scanQ_nil : scanQ [] = none := by rw [scanQ.eq_def]
theorem scanQ_cons (c : UInt8) (r : Bs) (h : c ≠ 92) : scanQ (c :: r) = if c = 34 then some 1 else (scanQ r).map (· + 1) := by
  rw [scanQ.eq_def]; simp [h]
theorem scanQ_back (d : UInt8) (r : Bs) : scanQ (92 :: d :: r) = (scanQ r).map (· + 2) := by
  rw [scanQ.eq_def]; simp
theorem scanQ_back1 : scanQ [92] = none := by rw [scanQ.eq_def]; simp
theorem inner_nil : innerE [] = some [] := by rw [innerE.eq_def]
theorem inner_bad (c : UInt8) (r : Bs) (h : c = 34 ∨ c < 32 ∨ 126 < c) : innerE (c :: r) = none := by rw [innerE.eq_def]; simp only [if_pos h]
theorem inner_one (c : UInt8) (r : Bs) (h : ¬ (c = 34 ∨ c < 32 ∨ 126 < c)) (h2 : c ≠ 92) : innerE (c :: r) = (innerE r).map (c :: ·) := by rw [innerE.eq_def]; simp only [if_neg h, if_pos h2]
theorem ok92 : ¬ ((92 : UInt8) = 34 ∨ (92 : UInt8) < 32 ∨ (126 : UInt8) < 92) := by decide
theorem inner_92 : innerE [92] = none := by rw [innerE.eq_def]; simp only [if_neg ok92, ne_eq, not_true_eq_false, if_false]
theorem inner_two (d : UInt8) (r : Bs) (h : d = 34 ∨ d = 92) : innerE (92 :: d :: r) = (innerE r).map (d :: ·) := by
  rw [innerE.eq_def]; simp only [if_neg ok92, ne_eq, not_true_eq_false, if_false, if_pos h]
theorem inner_hex (d a b : UInt8) (r : Bs) (h : ¬ (d = 34 ∨ d = 92)) : innerE (92 :: d :: a :: b :: r) = if d = 120 ∧ 0 ≤ hexV a ∧ 0 ≤ hexV b then (innerE r).map (UInt8.ofNat (16 * hexV a + hexV b).toNat :: ·) else none := by
  rw [innerE.eq_def]; simp only [if_neg ok92, ne_eq, not_true_eq_false, if_false, if_neg h]
theorem inner_short2 (d : UInt8) (h : ¬ (d = 34 ∨ d = 92)) : innerE [92, d] = none := by
  rw [innerE.eq_def]; simp only [if_neg ok92, ne_eq, not_true_eq_false, if_false, if_neg h]
theorem inner_short3 (d a : UInt8) (h : ¬ (d = 34 ∨ d = 92)) : innerE [92, d, a] = none := by
  rw [innerE.eq_def]; simp only [if_neg ok92, ne_eq, not_true_eq_false, if_false, if_neg h]

/-! ### Bytes, one by one -/
theorem byte_all {p : UInt8 → Bool} (h : ∀ n : Fin 256, p (UInt8.ofNat n.val) = true) (c : UInt8) : p c = true := by
  have := h ⟨c.toNat, c.toNat_lt⟩
  simpa using this

theorem bare_facts (c : UInt8) (h : bareB c = true) : c ≠ 34 ∧ c ≠ 32 ∧ c ≠ 92 ∧ 32 ≤ c ∧ c ≤ 126 := by
  have := byte_all (p := fun c => !bareB c || (c != 34 && c != 32 && c != 92 && decide (32 ≤ c) && decide (c ≤ 126))) (by decide +kernel) c
  simp [h] at this
  exact ⟨this.1.1.1.1, this.1.1.1.2, this.1.1.2, this.1.2, this.2⟩

/-- The three forms of a byte. -/
theorem esc_cases (c : UInt8) : (escB c = [92, c] ∧ (c = 34 ∨ c = 92)) ∨ (escB c = [c] ∧ c ≠ 34 ∧ c ≠ 92 ∧ 32 ≤ c ∧ c ≤ 126) ∨
    ∃ a b, escB c = [92, 120, a, b] ∧ a ≠ 34 ∧ a ≠ 92 ∧ b ≠ 34 ∧ b ≠ 92 ∧ 32 ≤ a ∧ a ≤ 126 ∧ 32 ≤ b ∧ b ≤ 126 ∧ 0 ≤ hexV a ∧ 0 ≤ hexV b ∧ UInt8.ofNat (16 * hexV a + hexV b).toNat = c := by
  unfold escB
  by_cases h1 : c = 34 ∨ c = 92
  · exact .inl ⟨by rw [if_pos h1], h1⟩
  · by_cases h2 : 32 ≤ c ∧ c ≤ 126
    · refine .inr (.inl ⟨by rw [if_neg h1, if_pos h2], ?_, ?_, h2⟩)
      · exact fun e => h1 (.inl e)
      · exact fun e => h1 (.inr e)
    · refine .inr (.inr ⟨_, _, by rw [if_neg h1, if_neg h2], ?_⟩)
      have := byte_all (p := fun c => let a := hexB.getD (c.toNat / 16) 0; let b := hexB.getD (c.toNat % 16) 0
        a != 34 && (a != 92 && (b != 34 && (b != 92 && (decide (32 ≤ a) && (decide (a ≤ 126) && (decide (32 ≤ b) && (decide (b ≤ 126) && (decide (0 ≤ hexV a) && (decide (0 ≤ hexV b) && decide (UInt8.ofNat (16 * hexV a + hexV b).toNat = c))))))))))) (by decide +kernel) c
      simpa only [Bool.and_eq_true, decide_eq_true_eq, bne_iff_ne] using this

theorem esc_len (c : UInt8) : 1 ≤ (escB c).length ∧ (escB c).length ≤ 4 := by
  rcases esc_cases c with ⟨e, _⟩ | ⟨e, _⟩ | ⟨a, b, e, _⟩ <;> rw [e] <;> simp

theorem inner_esc (c : UInt8) (r : Bs) : innerE (escB c ++ r) = (innerE r).map (c :: ·) := by
  rcases esc_cases c with ⟨e, h⟩ | ⟨e, h1, h2, h3, h4⟩ | ⟨a, b, e, h⟩
  · rw [e]
    exact inner_two c r h
  · rw [e]
    have e1 : ¬ (c = 34 ∨ c < 32 ∨ 126 < c) := by
      rintro (h | h | h)
      · exact h1 h
      · exact absurd h3 (UInt8.not_le.2 h)
      · exact absurd h4 (UInt8.not_le.2 h)
    exact inner_one c r e1 h2
  · obtain ⟨ha1, ha2, hb1, hb2, -, -, -, -, ha, hb, hc⟩ := h
    rw [e]
    refine (inner_hex 120 a b r (by decide)).trans ?_
    rw [if_pos ⟨rfl, ha, hb⟩, hc]

theorem inner_escs (s r : Bs) : innerE (escs s ++ r) = (innerE r).map (s ++ ·) := by
  induction s with
  | nil => simp [escs]
  | cons c s ih =>
    have : escs (c :: s) ++ r = escB c ++ (escs s ++ r) := by simp [escs]
    rw [this, inner_esc, ih]
    cases innerE r <;> simp

theorem scanQ_esc (c : UInt8) (r : Bs) : scanQ (escB c ++ r) = (scanQ r).map (· + (escB c).length) := by
  rcases esc_cases c with ⟨e, h⟩ | ⟨e, h1, h2, h3, h4⟩ | ⟨a, b, e, h⟩
  · rw [e]; exact scanQ_back c r
  · rw [e]; refine (scanQ_cons c r h2).trans ?_; rw [if_neg h1]; rfl
  · obtain ⟨ha1, ha2, hb1, hb2, -⟩ := h
    rw [e]
    refine (scanQ_back 120 (a :: b :: r)).trans ?_
    rw [scanQ_cons a _ ha2, if_neg ha1, scanQ_cons b _ hb2, if_neg hb1]
    cases scanQ r <;> simp

theorem scanQ_escs (s r : Bs) : scanQ (escs s ++ r) = (scanQ r).map (· + (escs s).length) := by
  induction s with
  | nil => simp [escs]
  | cons c s ih =>
    have : escs (c :: s) ++ r = escB c ++ (escs s ++ r) := by simp [escs]
    rw [this, scanQ_esc, ih]
    have e2 : (escs (c :: s)).length = (escB c).length + (escs s).length := by simp [escs]
    rw [e2]
    cases scanQ r with
    | none => rfl
    | some n => simp; omega

theorem run_all {s r : Bs} (h : s.all bareB = true) (hr : ∀ c ∈ r.head?, bareB c = false) : bareN (s ++ r) = s.length := by
  unfold bareN
  induction s with
  | nil =>
    cases r with
    | nil => rfl
    | cons c r => simp [hr c (by simp)]
  | cons c s ih =>
    simp only [List.all_cons, Bool.and_eq_true] at h
    simp [h.1, ih h.2]

theorem run_le (s : Bs) : bareN s ≤ s.length := (List.takeWhile_sublist _).length_le
theorem run_eq_len (s : Bs) : bareN s = s.length ↔ s.all bareB = true := by
  unfold bareN
  induction s with
  | nil => simp
  | cons c s ih =>
    have := (List.takeWhile_sublist bareB (l := s)).length_le
    cases h : bareB c with
    | true => simp [h]; simpa using ih
    | false => simp [h]

theorem word_bare {s : Bs} (h : wordC s = true) : s.all bareB = true ∧ s ≠ [] := by
  simp only [wordC, Bool.and_eq_true, Bool.not_eq_true', decide_eq_false_iff_not] at h
  exact ⟨h.1.2, h.1.1⟩

/-- What is written ends where the scan says, whatever blank stands behind. -/
theorem scan_quote (s r : Bs) (hr : ∀ c ∈ r.head?, bareB c = false) : scanE (quoteT s ++ r) = some (quoteT s).length := by
  unfold quoteT
  split
  · rename_i h
    obtain ⟨hb, hne⟩ := word_bare h
    cases s with
    | nil => exact absurd rfl hne
    | cons c s =>
      have hc := (List.all_eq_true.1 hb) c (by simp)
      have h34 := (bare_facts c hc).1
      have := run_all hb hr
      simp only [List.cons_append] at this ⊢
      simp only [scanE, if_neg h34, this]
      simp
  · simp only [List.cons_append, List.append_assoc, scanE, if_true]
    rw [scanQ_escs, scanQ_cons 34 _ (by decide), if_pos rfl]
    simp; omega

theorem quoted_bare {t : Bs} (h : t.all bareB = true) : quotedB t = false := by
  cases t with
  | nil => rfl
  | cons c t =>
    have := (bare_facts c ((List.all_eq_true.1 h) c (by simp))).1
    simp [quotedB, this]

theorem read_quote (s : Bs) : readE (quoteT s) = some s := by
  unfold quoteT
  split
  · rename_i h
    simp only [readE, quoted_bare (word_bare h).1, h]
    simp
  · have hq : quotedB (34 :: (escs s ++ [34])) = true := by
      have : (34 :: (escs s ++ [34])).getLast? = some (34 : UInt8) := by
        rw [← List.cons_append, List.getLast?_concat]
      simp only [quotedB, this]; simp
    simp only [readE, hq, if_true, List.drop_succ_cons, List.drop_zero]
    rw [List.dropLast_concat]
    have := inner_escs s []
    simpa [innerE] using this
theorem unquote_quote (s : Bs) (h : s.length ≤ 40) : unquoteT (quoteT s) = (s, 0) := by
  simp only [unquoteT, read_quote]
  rw [if_neg (by omega)]

theorem quote_inj {a b : Bs} (h : quoteT a = quoteT b) : a = b := by
  have h1 := read_quote a
  rw [h, read_quote] at h1
  exact (Option.some.inj h1).symm

/-! ### Lengths -/
theorem escs_len (s : Bs) : s.length ≤ (escs s).length ∧ (escs s).length ≤ 4 * s.length := by
  induction s with
  | nil => simp [escs]
  | cons c s ih =>
    have e2 : (escs (c :: s)).length = (escB c).length + (escs s).length := by simp [escs]
    have := esc_len c
    rw [e2]; simp; omega
theorem quote_len (s : Bs) : s.length ≤ (quoteT s).length ∧ (quoteT s).length ≤ 4 * s.length + 2 := by
  unfold quoteT
  have := escs_len s
  split <;> simp <;> omega

/-- How a text between two " may begin. -/
theorem inner_cases (t : Bs) : t = [] ∨ innerE t = none ∨
    (∃ c r, t = c :: r ∧ ¬ (c = 34 ∨ c < 32 ∨ 126 < c) ∧ c ≠ 92 ∧ innerE t = (innerE r).map (c :: ·)) ∨
    (∃ d r, t = 92 :: d :: r ∧ (d = 34 ∨ d = 92) ∧ innerE t = (innerE r).map (d :: ·)) ∨
    (∃ a b r, t = 92 :: 120 :: a :: b :: r ∧ 0 ≤ hexV a ∧ 0 ≤ hexV b ∧ innerE t = (innerE r).map (UInt8.ofNat (16 * hexV a + hexV b).toNat :: ·)) := by
  match t with
  | [] => exact .inl rfl
  | c :: r =>
    by_cases h1 : c = 34 ∨ c < 32 ∨ 126 < c
    · exact .inr (.inl (inner_bad c r h1))
    · by_cases h2 : c = 92
      · subst h2
        match r with
        | [] => exact .inr (.inl inner_92)
        | d :: r =>
          by_cases h3 : d = 34 ∨ d = 92
          · exact .inr (.inr (.inr (.inl ⟨d, r, rfl, h3, inner_two d r h3⟩)))
          · match r with
            | [] => exact .inr (.inl (inner_short2 d h3))
            | [a] => exact .inr (.inl (inner_short3 d a h3))
            | a :: b :: r =>
              by_cases h4 : d = 120 ∧ 0 ≤ hexV a ∧ 0 ≤ hexV b
              · obtain ⟨rfl, ha, hb⟩ := h4
                refine .inr (.inr (.inr (.inr ⟨a, b, r, rfl, ha, hb, ?_⟩)))
                rw [inner_hex 120 a b r h3, if_pos ⟨rfl, ha, hb⟩]
              · exact .inr (.inl (by rw [inner_hex d a b r h3, if_neg h4]))
      · exact .inr (.inr (.inl ⟨c, r, rfl, h1, h2, inner_one c r h1 h2⟩))

theorem esc_one {c : UInt8} (h1 : ¬ (c = 34 ∨ c < 32 ∨ 126 < c)) (h2 : c ≠ 92) : escB c = [c] := by
  rcases not_or.1 h1 with ⟨h3, h4⟩
  rcases not_or.1 h4 with ⟨h5, h6⟩
  unfold escB
  rw [if_neg (by simp [h3, h2]), if_pos ⟨UInt8.not_lt.1 h5, UInt8.not_lt.1 h6⟩]

theorem escs_cons (c : UInt8) (s : Bs) : escs (c :: s) = escB c ++ escs s := by simp [escs]

theorem inner_len_le (n : Nat) : ∀ (t s : Bs), t.length ≤ n → innerE t = some s → (escs s).length ≤ t.length := by
  induction n with
  | zero =>
    intro t s hn h
    obtain rfl : t = [] := List.length_eq_zero_iff.1 (by omega)
    rw [inner_nil] at h
    obtain rfl := Option.some.inj h
    simp [escs]
  | succ n ih =>
    intro t s hn h
    rcases inner_cases t with rfl | e | ⟨c, r, rfl, h1, h2, e⟩ | ⟨d, r, rfl, h1, e⟩ | ⟨a, b, r, rfl, ha, hb, e⟩
    · rw [inner_nil] at h
      obtain rfl := Option.some.inj h
      simp [escs]
    · rw [e] at h; cases h
    · rw [e] at h
      obtain ⟨s', hs, rfl⟩ := Option.map_eq_some_iff.1 h
      have := ih r s' (by simp at hn; omega) hs
      rw [escs_cons, esc_one h1 h2]; simp; omega
    · rw [e] at h
      obtain ⟨s', hs, rfl⟩ := Option.map_eq_some_iff.1 h
      have := ih r s' (by simp at hn; omega) hs
      have e3 : escB d = [92, d] := by unfold escB; rw [if_pos h1]
      rw [escs_cons, e3]; simp; omega
    · rw [e] at h
      obtain ⟨s', hs, rfl⟩ := Option.map_eq_some_iff.1 h
      have := ih r s' (by simp at hn; omega) hs
      have h4 := (esc_len (UInt8.ofNat (16 * hexV a + hexV b).toNat)).2
      rw [escs_cons]; simp at h4 ⊢; omega
theorem inner_len (t s : Bs) : innerE t = some s → (escs s).length ≤ t.length := inner_len_le _ t s (Nat.le_refl _)

theorem quote_read_len {t s : Bs} (h : readE t = some s) : (quoteT s).length ≤ t.length + 2 := by
  unfold readE at h
  split at h
  · have h1 := inner_len _ _ h
    have h2 := escs_len s
    unfold quoteT
    have : (t.drop 1).dropLast.length = t.length - 2 := by simp; omega
    rw [this] at h1
    split
    · omega
    · simp; omega
  · split at h
    · rename_i hw
      obtain rfl := Option.some.inj h
      unfold quoteT; rw [if_pos hw]; omega
    · cases h

/-! ### The bytes that are written -/
/-- A " stands behind a \ alone. -/
def calm : UInt8 → Bs → Bool
  | _, [] => true
  | p, c :: r => (c != 34 || p == 92) && calm c r
def seenB (c : UInt8) : Bool := decide (32 ≤ c) && decide (c ≤ 126)

theorem escs_seen (s : Bs) : (escs s).all seenB = true := by
  induction s with
  | nil => rfl
  | cons c s ih =>
    have e2 : escs (c :: s) = escB c ++ escs s := by simp [escs]
    rw [e2, List.all_append, ih, Bool.and_true]
    rcases esc_cases c with ⟨e, h⟩ | ⟨e, h1, h2, h3, h4⟩ | ⟨a, b, e, h⟩
    · rw [e]; rcases h with rfl | rfl <;> decide
    · rw [e]; simp [seenB, h3, h4]
    · obtain ⟨-, -, -, -, h5, h6, h7, h8, -⟩ := h
      rw [e]; simp [seenB, h5, h6, h7, h8]
theorem calm_escs (s : Bs) : ∀ p r, (∀ q, calm q r = true) → calm p (escs s ++ r) = true := by
  induction s with
  | nil => intro p r h; simpa [escs] using h p
  | cons c s ih =>
    intro p r h
    have e2 : escs (c :: s) ++ r = escB c ++ (escs s ++ r) := by simp [escs]
    rw [e2]
    rcases esc_cases c with ⟨e, hc⟩ | ⟨e, h1, h2, h3, h4⟩ | ⟨a, b, e, hx⟩
    · rw [e]; simp [calm, ih _ r h]
    · rw [e]; simp [calm, ih _ r h, h1]
    · obtain ⟨h1, -, h3, -⟩ := hx
      rw [e]; simp [calm, ih _ r h, h1, h3]
theorem quote_seen (s : Bs) : (quoteT s).all seenB = true := by
  unfold quoteT
  split
  · rename_i h
    refine List.all_eq_true.2 fun c hc => ?_
    have := bare_facts c ((List.all_eq_true.1 (word_bare h).1) c hc)
    simp [seenB, this.2.2.2.1, this.2.2.2.2]
  · have := escs_seen s
    simp only [List.all_cons, List.all_append, this, List.all_nil]
    decide
theorem quote_ne (s : Bs) : quoteT s ≠ [] := by
  unfold quoteT
  split
  · rename_i h; exact (word_bare h).2
  · simp
theorem quote_head (s : Bs) : (quoteT s).head? = some 34 ↔ wordC s = false := by
  unfold quoteT
  cases h : wordC s with
  | true =>
    obtain ⟨hb, hne⟩ := word_bare h
    cases s with
    | nil => exact absurd rfl hne
    | cons c s =>
      have := (bare_facts c ((List.all_eq_true.1 hb) c (by simp))).1
      simp [this]
  | false => simp
end Go.Fs
