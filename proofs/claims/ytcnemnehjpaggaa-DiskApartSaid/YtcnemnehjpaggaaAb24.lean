/- Operations that leave a trace in memory: their condition. -/
import Derived.Test.YtcnemnehjpaggaaAb23
set_option linter.all false
namespace Go.Ab
open Go
section
variable {Γ : FuncId → Spec} {env : Nat → V} {mem : Nat → Option Obj} {K : AS → Prop} {dst : Option Nat} {args : List O} {r : List Op1}
theorem steps_gen {k : Ab.K} : exN (steps Γ (⟨dst, k, args, none⟩ :: r) ⟨env, mem⟩) K = exO (run Γ (dst.getD 0) mem k (args.map (ev env))) fun v ups => exN (steps Γ r ⟨putD env dst v, setAll mem ups⟩) K := by
  rw [steps_cons]; rfl
/-- A literal of bytes. -/
theorem steps_bslice {k len : Nat} {zero : List S} {at_ : List Nat} : exN (steps Γ (⟨dst, .bslice k len zero at_, args, none⟩ :: r) ⟨env, mem⟩) K =
    exO (runBslice k len zero at_ (dst.getD 0) mem (args.map (ev env))) fun v ups => exN (steps Γ r ⟨putD env dst v, setAll mem ups⟩) K := steps_gen
theorem bslice1 {d : Nat} {m : Nat → Option Obj} {a : Int} {F : V → List (Nat × Obj) → Prop} : exO (runBslice 1 1 [.int .u8 0] [0] d m [.c (.s (.int .u8 a))]) F = (m d = none ∧ F (.c (.own d 1)) [(d, .row 1 [[.int .u8 a]])]) := by
  cases h : m d <;> simp [runBslice, layParts, cellsV, splice, asS, chunks, exO, h]
theorem bslice2 {d : Nat} {m : Nat → Option Obj} {a b : Int} {F : V → List (Nat × Obj) → Prop} : exO (runBslice 1 2 [.int .u8 0] [0, 1] d m [.c (.s (.int .u8 a)), .c (.s (.int .u8 b))]) F = (m d = none ∧ F (.c (.own d 2)) [(d, .row 1 [[.int .u8 a], [.int .u8 b]])]) := by
  cases h : m d <;> simp [runBslice, layParts, cellsV, splice, asS, chunks, exO, h]
/-- The bytes of a row of the frame's own. -/
def bytesOf : Option Obj → Nat → Option (List UInt8)
  | some (.row 1 rows), n => if n = rows.length then asBytes rows else none
  | _, _ => none
theorem toStr_eq {d l n : Nat} {m : Nat → Option Obj} {s : List UInt8} (h : bytesOf (m l) n = some s) : run Γ d m .toStr [.c (.own l n)] = some (.c (.s (.str s)), []) := by
  unfold bytesOf at h
  split at h
  · rename_i rows n e
    split at h
    · rename_i hn
      simp [run, runToStr, ownRows, e, hn, h]
    · cases h
  · cases h
/-- The bytes of a row become a string (a sufficient condition). -/
theorem steps_rowStr {l n : Nat} {s : List UInt8} {x : O} (hx : ev env x = .c (.own l n)) (h : bytesOf (mem l) n = some s) : exN (steps Γ (⟨dst, .toStr, [x], none⟩ :: r) ⟨env, mem⟩) K = exN (steps Γ r ⟨putD env dst (.c (.s (.str s))), mem⟩) K := by
  rw [steps_gen]
  simp only [List.map_cons, List.map_nil, hx, toStr_eq h, exO, setAll]
theorem ok_rowStr {Γ' : FuncId → Spec} {d l n : Nat} {m : Nat → Option Obj} (h : (bytesOf (m l) n).isSome = true) : okO (run Γ' d m .toStr [.c (.own l n)]) = True := by
  obtain ⟨s, hs⟩ := Option.isSome_iff_exists.1 h
  simp [okO, toStr_eq hs]
theorem v_rowStr {l n : Nat} {m : Nat → Option Obj} (h : (bytesOf (m l) n).isSome = true) : runV m .toStr [.c (.own l n)] = .c (.s (.str ((bytesOf (m l) n).getD []))) := by
  obtain ⟨s, hs⟩ := Option.isSome_iff_exists.1 h
  simp [runV, valO, toStr_eq hs, hs]
theorem vc_regD_nil {Q : Exit → AS → Prop} {st : AS} {ops : List Op1} : awp Γ (.regD ops []) Q st = exN (steps Γ ops st) (Q .normal) := by
  rw [vc_regD]; simp [pairsOk]
theorem bytesOf_row {rows : List (List S)} {n : Nat} : bytesOf (some (.row 1 rows)) n = if n = rows.length then asBytes rows else none := nr rfl
theorem asBytes_nil : asBytes [] = some [] := nr rfl
theorem asBytes_cons {c : Int} {r : List (List S)} : asBytes ([.int .u8 c] :: r) = if 0 ≤ c ∧ c < 256 then (asBytes r).map (UInt8.ofNat c.toNat :: ·) else none := nr rfl
theorem v_shr {m : Nat → Option Obj} {k k' : IntKind} {a y : Int} (h : 0 ≤ y ∧ y < k.bits) : runV m (.bin .shr) [.c (.s (.int k a)), .c (.s (.int k' y))] = .c (.s (.int k (a / 2 ^ y.toNat))) := by
  simp [runV, binV, binS, h]
theorem ok_shr {m : Nat → Option Obj} {d : Nat} {k k' : IntKind} {a y : Int} (h : 0 ≤ y ∧ y < k.bits) : okO (run Γ d m (.bin .shr) [.c (.s (.int k a)), .c (.s (.int k' y))]) = True := by
  simp [okO, run, runBin, binS, h]
theorem v_and {m : Nat → Option Obj} {k : IntKind} {a b : Int} (h : 0 ≤ a ∧ 0 ≤ b ∧ inK k a = true ∧ inK k b = true) : runV m (.bin .and) [.c (.s (.int k a)), .c (.s (.int k b))] = .c (.s (.int k ((a.toNat &&& b.toNat : Nat) : Int))) := by
  simp [runV, binV, binS, binI, h]
theorem ok_and {m : Nat → Option Obj} {d : Nat} {k : IntKind} {a b : Int} (h : 0 ≤ a ∧ 0 ≤ b ∧ inK k a = true ∧ inK k b = true) : okO (run Γ d m (.bin .and) [.c (.s (.int k a)), .c (.s (.int k b))]) = True := by
  simp [okO, run, runBin, binS, binI, h]
end
end Go.Ab
