/- The functions of package word, that read. -/
import Derived.Test.YtjjjgagmknlpmaaC1
set_option linter.all false
namespace Go.Proofs.Ytjjjgagmknlpmaa
open Go Go.Ab Go.Proofs Go.Fs
theorem idx_hex (c : UInt8) : Lib.indexByte hexB c = hexV c := by
  have := byte_all (p := fun c => decide (Lib.indexByte hexB c = hexV c)) (by decide +kernel) c
  exact of_decide_eq_true this
theorem idx_hex' (c : UInt8) : Lib.indexByte [48, 49, 50, 51, 52, 53, 54, 55, 56, 57, 97, 98, 99, 100, 101, 102] c = hexV c := idx_hex c
theorem hexV_ge (c : UInt8) : -1 ≤ hexV c := by
  have := byte_all (p := fun c => decide (-1 ≤ hexV c)) (by decide +kernel) c
  exact of_decide_eq_true this
theorem byte_t3 (c : UInt8) : (decide (c = 34) || decide (c < 32) || decide (126 < c)) = decide (c = 34 ∨ c < 32 ∨ 126 < c) := by
  by_cases h1 : c = 34 <;> by_cases h2 : c < 32 <;> by_cases h3 : 126 < c <;> simp [h1, h2, h3]
theorem hex_or {a b : Int} (h : 0 ≤ a ∧ 0 ≤ b) (ha : a < 16) (hb : b < 16) : (((a * 16).toNat ||| b.toNat : Nat) : Int) % 256 = 16 * a + b := by
  obtain ⟨n, rfl⟩ : ∃ n : Nat, a = n := ⟨a.toNat, by omega⟩
  obtain ⟨m, rfl⟩ : ∃ m : Nat, b = m := ⟨b.toNat, by omega⟩
  have := (by decide +kernel : ∀ n m : Fin 16, (((n.val : Int) * 16).toNat ||| (m.val : Int).toNat) = 16 * n.val + m.val) ⟨n, by omega⟩ ⟨m, by omega⟩
  simp only at this
  rw [this]; omega
theorem hexV_lt (c : UInt8) : hexV c < 16 := by
  have := byte_all (p := fun c => decide (hexV c < 16)) (by decide +kernel) c
  exact of_decide_eq_true this
def pieceG : List V → Option V
  | [.c (.s (.str t))] => if t ≠ [] ∧ t.length < 9223372036854775807 then some (.tup [.inl (.s (.int .u8 (pieceE t).1)), .inl (.s (.int .i64 (pieceE t).2))]) else none
  | _ => none
theorem pieceG_call {t : Bs} {gt : Bool} {K : V → Prop} : callE pieceG [.c (.s (.str t))] gt K = ((gt = true → t ≠ [] ∧ t.length < 9223372036854775807) ∧ bindV (ifV gt (.tup [.inl (.s (.int .u8 (pieceE t).1)), .inl (.s (.int .i64 (pieceE t).2))])) K) := callE_of rfl
theorem pieceG_callo {t : Bs} {m : Nat → Option Ab.Obj} {locs : List Nat} {K : V → (Nat → Option Ab.Obj) → Prop} : callO pieceG (some [.c (.s (.str t))]) m locs K = ((t ≠ [] ∧ t.length < 9223372036854775807) ∧ K (.tup [.inl (.s (.int .u8 (pieceE t).1)), .inl (.s (.int .i64 (pieceE t).2))]) (sealW m locs (.tup [.inl (.s (.int .u8 (pieceE t).1)), .inl (.s (.int .i64 (pieceE t).2))]))) := callO_of rfl
attribute [go_sem] pieceG_call pieceG_callo


def scanG : List V → Option V
  | [.c (.s (.str t)), .c (.s (.int .i64 a))] => if t.length < 9223372036854775806 then some (.tup [.inl (.s (.int .i64 (scanC t a).1)), .inl (.s (.bool (scanC t a).2))]) else none
  | _ => none
theorem scanG_call {t : Bs} {a : Int} {gt : Bool} {K : V → Prop} : callE scanG [.c (.s (.str t)), .c (.s (.int .i64 a))] gt K = ((gt = true → t.length < 9223372036854775806) ∧ bindV (ifV gt (.tup [.inl (.s (.int .i64 (scanC t a).1)), .inl (.s (.bool (scanC t a).2))])) K) := callE_of rfl
theorem scanG_callo {t : Bs} {a : Int} {m : Nat → Option Ab.Obj} {locs : List Nat} {K : V → (Nat → Option Ab.Obj) → Prop} : callO scanG (some [.c (.s (.str t)), .c (.s (.int .i64 a))]) m locs K = ((t.length < 9223372036854775806) ∧ K (.tup [.inl (.s (.int .i64 (scanC t a).1)), .inl (.s (.bool (scanC t a).2))]) (sealW m locs (.tup [.inl (.s (.int .i64 (scanC t a).1)), .inl (.s (.bool (scanC t a).2))]))) := callO_of rfl
attribute [go_sem] scanG_call scanG_callo

theorem scanC_at {t : Bs} {n : Nat} (h : n < t.length) : scanC t n = if t.getD n 0 = 34 then (match scanQ (t.drop (n + 1)) with
    | some k => (((n + 1 + k : Nat) : Int), true)
    | none => (0, false)) else if bareN (t.drop n) = 0 then (0, false) else (((n + bareN (t.drop n) : Nat) : Int), true) := by
  unfold scanC
  rw [if_pos (by omega), Int.toNat_natCast]
  have e : t.drop n = t.getD n 0 :: t.drop (n + 1) := by rw [List.drop_eq_getElem_cons h]; simp [h]
  generalize hc : t.getD n 0 = c at e
  generalize t.drop (n + 1) = r at *
  rw [e]
  simp only [scanE]
  by_cases h34 : c = 34
  · rw [if_pos h34, if_pos h34]
    cases scanQ r with
    | none => rfl
    | some k => simp only [Option.map_some, Prod.mk.injEq, and_true]; omega
  · rw [if_neg h34, if_neg h34]
    by_cases hb : bareN (c :: r) = 0
    · rw [if_pos hb, if_pos hb]
    · rw [if_neg hb, if_neg hb]; simp

theorem piece_inner {t : Bs} (h : t ≠ []) : (pieceE t = (0, 0) ∧ innerE t = none) ∨ ∃ (c : UInt8) (n : Nat), pieceE t = ((c.toNat : Int), (n : Int)) ∧ 1 ≤ n ∧ n ≤ t.length ∧ innerE t = (innerE (t.drop n)).map (c :: ·) := by
  match t, h with
  | c :: r, _ =>
    by_cases h1 : c = 34 ∨ c < 32 ∨ 126 < c
    · exact .inl ⟨by simp only [pieceE, if_pos h1], inner_bad c r h1⟩
    · by_cases h2 : c = 92
      · subst h2
        match r with
        | [] => exact .inl ⟨by simp only [pieceE, if_neg h1, ne_eq, not_true_eq_false, if_false], inner_92⟩
        | d :: r =>
          by_cases h3 : d = 34 ∨ d = 92
          · exact .inr ⟨d, 2, by simp only [pieceE, if_neg h1, ne_eq, not_true_eq_false, if_false, if_pos h3]; rfl, by omega, by simp, inner_two d r h3⟩
          · match r with
            | [] => exact .inl ⟨by simp only [pieceE, if_neg h1, ne_eq, not_true_eq_false, if_false, if_neg h3], inner_short2 d h3⟩
            | [a] => exact .inl ⟨by simp only [pieceE, if_neg h1, ne_eq, not_true_eq_false, if_false, if_neg h3], inner_short3 d a h3⟩
            | a :: b :: r =>
              by_cases h4 : d = 120 ∧ 0 ≤ hexV a ∧ 0 ≤ hexV b
              · refine .inr ⟨UInt8.ofNat (16 * hexV a + hexV b).toNat, 4, ?_, by omega, by simp, ?_⟩
                · have hla := hexV_lt a
                  have hlb := hexV_lt b
                  simp only [pieceE, if_neg h1, ne_eq, not_true_eq_false, if_false, if_neg h3, if_pos h4]
                  rw [UInt8.toNat_ofNat', Nat.mod_eq_of_lt (by omega)]
                  simp only [Prod.mk.injEq]
                  exact ⟨by omega, rfl⟩
                · refine (inner_hex d a b r h3).trans ?_
                  rw [if_pos h4]; rfl
              · exact .inl ⟨by simp only [pieceE, if_neg h1, ne_eq, not_true_eq_false, if_false, if_neg h3, if_neg h4], by rw [inner_hex d a b r h3, if_neg h4]⟩
      · exact .inr ⟨c, 1, by simp only [pieceE, if_neg h1, if_pos h2]; rfl, by omega, by simp, inner_one c r h1 h2⟩
def innerG : List V → Option V
  | [.c (.s (.str t))] => if t.length < 35184372088832 then some (.tup [.inl (.s (.str ((innerE t).getD []))), .inl (.s (.bool (innerE t).isSome))]) else none
  | _ => none
theorem innerG_call {t : Bs} {gt : Bool} {K : V → Prop} : callE innerG [.c (.s (.str t))] gt K = ((gt = true → t.length < 35184372088832) ∧ bindV (ifV gt (.tup [.inl (.s (.str ((innerE t).getD []))), .inl (.s (.bool (innerE t).isSome))])) K) := callE_of rfl
theorem innerG_callo {t : Bs} {m : Nat → Option Ab.Obj} {locs : List Nat} {K : V → (Nat → Option Ab.Obj) → Prop} : callO innerG (some [.c (.s (.str t))]) m locs K = ((t.length < 35184372088832) ∧ K (.tup [.inl (.s (.str ((innerE t).getD []))), .inl (.s (.bool (innerE t).isSome))]) (sealW m locs (.tup [.inl (.s (.str ((innerE t).getD []))), .inl (.s (.bool (innerE t).isSome))]))) := callO_of rfl
attribute [go_sem] innerG_call innerG_callo


def unqG : List V → Option V
  | [.c (.s (.str t))] => if t.length < 35184372088832 then some (.tup [.inl (.s (.str (unquoteT t).1)), .inl (.s (.int .i64 (unquoteT t).2))]) else none
  | _ => none
theorem unqG_call {t : Bs} {gt : Bool} {K : V → Prop} : callE unqG [.c (.s (.str t))] gt K = ((gt = true → t.length < 35184372088832) ∧ bindV (ifV gt (.tup [.inl (.s (.str (unquoteT t).1)), .inl (.s (.int .i64 (unquoteT t).2))])) K) := callE_of rfl
theorem unqG_callo {t : Bs} {m : Nat → Option Ab.Obj} {locs : List Nat} {K : V → (Nat → Option Ab.Obj) → Prop} : callO unqG (some [.c (.s (.str t))]) m locs K = ((t.length < 35184372088832) ∧ K (.tup [.inl (.s (.str (unquoteT t).1)), .inl (.s (.int .i64 (unquoteT t).2))]) (sealW m locs (.tup [.inl (.s (.str (unquoteT t).1)), .inl (.s (.int .i64 (unquoteT t).2))]))) := callO_of rfl
attribute [go_sem] unqG_call unqG_callo

theorem quoted_iff (t : Bs) : (decide (1 < (t.length : Int)) && decide (t.getD 0 0 = 34) && decide (t.getD ((t.length : Int) - 1).toNat 0 = 34)) = quotedB t := by
  match t with
  | [] => rfl
  | [c] => rfl
  | c :: d :: r =>
    have e : (((c :: d :: r).length : Int) - 1).toNat = r.length + 1 := by simp only [List.length_cons]; omega
    rw [e]
    have hl : (c :: d :: r).getLast? = some ((c :: d :: r).getD (r.length + 1) 0) := by
      rw [List.getLast?_eq_getElem?]; simp
    have h1 : decide (1 < ((c :: d :: r).length : Int)) = true := by simp only [List.length_cons]; exact decide_eq_true (by omega)
    have h2 : decide (2 ≤ (c :: d :: r).length) = true := by simp
    simp only [quotedB, hl, List.head?_cons, Option.some.injEq, h1, h2, List.getD_cons_zero]

end Go.Proofs.Ytjjjgagmknlpmaa
