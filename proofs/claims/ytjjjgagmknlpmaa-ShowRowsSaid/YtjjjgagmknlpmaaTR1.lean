/- Trees, line by line, and their text, as plain data. -/
import Derived.Test.YtjjjgagmknlpmaaD0
import GoSem.Op.String
set_option linter.all false
namespace Go.Fs
structure Ln where
  d : Int
  w : Bs
  m : Int
  deriving DecidableEq
instance : Inhabited Ln := ⟨⟨0, [], 0⟩⟩
def leB (a b : Bs) : Bool := Op.bytesLess a b || a == b
theorem gt_trans : ∀ {a b c : Bs}, leB a b = false → leB b c = false → leB a c = false
  | [], b, c, h, _ => by cases b <;> simp [leB, Op.bytesLess] at h
  | x :: a, [], c, _, h => by cases c <;> simp [leB, Op.bytesLess] at h
  | x :: a, y :: b, [], _, _ => by simp [leB, Op.bytesLess]
  | x :: a, y :: b, z :: c, h1, h2 => by
    have ih := gt_trans (a := a) (b := b) (c := c)
    simp only [leB, Op.bytesLess, Bool.or_eq_false_iff, decide_eq_false_iff_not, Bool.and_eq_false_iff, beq_eq_false_iff_ne, ne_eq, List.cons.injEq, not_and, UInt8.not_lt] at h1 h2 ih ⊢
    obtain ⟨⟨p1, p2⟩, p3⟩ := h1
    obtain ⟨⟨q1, q2⟩, q3⟩ := h2
    have hxz : z ≤ x := UInt8.le_trans q1 p1
    by_cases h : x = z
    · have hxy : x = y := UInt8.le_antisymm (h ▸ q1) p1
      have hyz : y = z := hxy ▸ h
      have := ih ⟨p2.resolve_left (fun e => e hxy), p3 hxy⟩ ⟨q2.resolve_left (fun e => e hyz), q3 hyz⟩
      exact ⟨⟨hxz, .inr this.1⟩, fun _ => this.2⟩
    · exact ⟨⟨hxz, .inl h⟩, fun e => absurd e h⟩
def soundB (l : Ln) : Bool := decide (0 ≤ l.d) && decide (l.d < 16) && decide (l.w.length ≤ 40) && decide (0 ≤ l.m) && decide (l.m ≤ 3)
/-- Right behind a path of words. -/
def goS (st : List Bs) : List Ln → Bool
  | [] => true
  | l :: r => soundB l && decide (l.d ≤ st.length) && !(decide (l.d < st.length) && leB l.w (st.getD l.d.toNat [])) && goS (st.take l.d.toNat ++ [l.w]) r
def rightT (t : List Ln) : Bool := decide (t.length ≤ 200) && goS [] t
/-! ### The text -/
def blanksB (n : Nat) : Bs := List.replicate (2 * n) 32
def inactB : Bs := [105, 110, 97, 99, 116, 105, 118, 101, 58, 32]
def protB : Bs := [112, 114, 111, 116, 101, 99, 116, 58, 32]
def marksB (m : Int) : Bs := (if m % 2 = 1 then inactB else []) ++ (if 1 < m then protB else [])
def lineB (l : Ln) : Bs := blanksB l.d.toNat ++ marksB l.m ++ quoteT l.w
/-- Rows that close the parts from one depth down to another. -/
def closedN (n : Nat) : Nat → Bs
  | 0 => []
  | k + 1 => blanksB (n + k) ++ [125, 10] ++ closedN n k
def closedB (d n : Int) : Bs := closedN n.toNat (d - n).toNat
def endB (d n : Int) : Bs := if d < n then [32, 123, 10] else 59 :: 10 :: closedB d n
def nextD : List Ln → Int
  | [] => 0
  | l :: _ => l.d
def textT : List Ln → Bs
  | [] => []
  | l :: r => lineB l ++ endB l.d (nextD r) ++ textT r
/-! ### Parts -/
def endN (t : List Ln) (i : Nat) : Nat := i + 1 + ((t.drop (i + 1)).takeWhile fun l => decide ((t.getD i default).d < l.d)).length
def subT (t : List Ln) (i : Nat) : List Ln := ((t.take (endN t i)).drop i).map fun l => ⟨l.d - (t.getD i default).d, l.w, l.m⟩
def kidsT (t : List Ln) : List Int := ((List.range t.length).filter fun i => decide ((t.getD i default).d = 0)).map fun (i : Nat) => (i : Int)
def leafB (t : List Ln) (i : Nat) : Bool := decide (i + 1 = t.length) || decide ((t.getD (i + 1) default).d ≤ (t.getD i default).d)
def leavesT (t : List Ln) : List Int := ((List.range t.length).filter fun i => leafB t i).map fun (i : Nat) => (i : Int)
def smallT (t : List Ln) : Bool := decide (t.length ≤ 220) && t.all fun l => decide (l.w.length ≤ 100)
/-! ### Right, line by line -/
theorem goS_sound : ∀ {t : List Ln} {st : List Bs}, goS st t = true → ∀ l ∈ t, soundB l = true
  | [], _, _, l, h => by simp at h
  | x :: r, st, h, l, hl => by
    simp only [goS, Bool.and_eq_true] at h
    rcases List.mem_cons.1 hl with rfl | hl
    · exact h.1.1.1
    · exact goS_sound h.2 l hl
theorem sound_iff (l : Ln) : soundB l = true ↔ (0 ≤ l.d ∧ l.d < 16) ∧ l.w.length ≤ 40 ∧ 0 ≤ l.m ∧ l.m ≤ 3 := by
  simp only [soundB, Bool.and_eq_true, decide_eq_true_eq]
  constructor
  · rintro ⟨⟨⟨⟨a, b⟩, c⟩, d⟩, e⟩; exact ⟨⟨a, b⟩, c, d, e⟩
  · rintro ⟨⟨a, b⟩, c, d, e⟩; exact ⟨⟨⟨⟨a, b⟩, c⟩, d⟩, e⟩
theorem right_len {t : List Ln} (h : rightT t = true) : t.length ≤ 200 ∧ goS [] t = true := by
  simpa [rightT] using h
/-- The words of the path behind the lines. -/
def pathS (st : List Bs) : List Ln → List Bs
  | [] => st
  | l :: r => pathS (st.take l.d.toNat ++ [l.w]) r
theorem pathS_snoc : ∀ (t : List Ln) (st : List Bs) (l : Ln), pathS st (t ++ [l]) = (pathS st t).take l.d.toNat ++ [l.w]
  | [], _, _ => rfl
  | x :: t, st, l => by simp only [List.cons_append, pathS]; exact pathS_snoc t _ l
def okAt (st : List Bs) (l : Ln) : Bool := soundB l && decide (l.d ≤ st.length) && !(decide (l.d < st.length) && leB l.w (st.getD l.d.toNat []))
theorem goS_snoc : ∀ (t : List Ln) (st : List Bs) (l : Ln), goS st (t ++ [l]) = (goS st t && okAt (pathS st t) l)
  | [], st, l => by simp only [List.nil_append, goS, pathS, okAt, Bool.and_true, Bool.true_and]; rfl
  | x :: t, st, l => by simp only [List.cons_append, goS, pathS]; rw [goS_snoc t _ l]; simp only [Bool.and_assoc]
theorem goS_prefix : ∀ {a b : List Ln} {st : List Bs}, goS st (a ++ b) = true → goS st a = true
  | [], _, _, _ => rfl
  | x :: a, b, st, h => by
    simp only [List.cons_append, goS, Bool.and_eq_true] at h ⊢
    exact ⟨h.1, goS_prefix h.2⟩
theorem okAt_d {st : List Bs} {l : Ln} (h : okAt st l = true) : soundB l = true ∧ l.d ≤ st.length := by
  simp only [okAt, Bool.and_eq_true, decide_eq_true_eq] at h
  exact h.1
theorem path_len {t : List Ln} (h : goS [] t = true) : ((pathS [] t).length : Int) = if t = [] then 0 else (t.getD (t.length - 1) default).d + 1 := by
  rcases List.eq_nil_or_concat t with rfl | ⟨a, l, rfl⟩
  · rfl
  · rw [List.concat_eq_append] at h ⊢
    rw [goS_snoc, Bool.and_eq_true] at h
    have hd := okAt_d h.2
    have hs := (sound_iff l).1 hd.1
    have he : (a ++ [l]).getD ((a ++ [l]).length - 1) default = l := by
      rw [List.length_append, List.length_singleton, Nat.add_sub_cancel, List.getD_eq_getElem?_getD, List.getElem?_append_right (by omega)]; simp
    rw [if_neg (by simp), he, pathS_snoc, List.length_append, List.length_take, List.length_singleton]
    omega
end Go.Fs
