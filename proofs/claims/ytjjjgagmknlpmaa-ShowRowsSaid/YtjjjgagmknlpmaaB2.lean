/- The walk of IndexByte of package strings, at this seat. -/
import Derived.Test.YtjjjgagmknlpmaaChecked
import Derived.WalkKit
import Derived.WalkSpells
import Derived.WalkLawsBesides
import Derived.Lib.Strings
import Derived.Lib.Bytealg
import Derived.Test.YtjjjgagmknlpmaaAb23
set_option linter.all false
namespace Go.Proofs.Ytjjjgagmknlpmaa
open Go Go.Ab Go.Proofs Go.RowKit
set_option maxHeartbeats 1000000 in
set_option maxRecDepth 100000 in
theorem index_byte (s : ByteArray) (c : Int) (w : World) (hc0 : 0 ≤ c) (hc1 : c < 256) :
    Calls Try.prog 56 #[.string s, .int .u8 c] w fun e w' => e = .returned (.int .i64 (Lib.indexByte s.data.toList (UInt8.ofNat c.toNat))) ∧ w' = w := by
  go_enter Try.func56, Try.ntmps56
  go_wp2
  rw [run_callFunc_extern Try.func57 (by kernel_rfl) (by kernel_rfl) (by kernel_rfl) (e := Extern.BytealgIndexByte.indexByte) (by kernel_rfl)]
  rw [Lib.run_indexByteString]
  simp only [Result.andThen]
  rw [Oper.upon_value]
  go_wp2
  go_ret
  exact ⟨rfl, rfl⟩

/-- The specification of IndexByte. -/
def idxG : List V → Option V
  | [.c (.s (.str s)), .c (.s (.int .u8 c))] => if 0 ≤ c ∧ c < 256 then some (.c (.s (.int .i64 (Lib.indexByte s (UInt8.ofNat c.toNat))))) else none
  | _ => none
theorem contract_internal_stringslite_IndexByte : Contract Try.prog 56 (plain idxG) := by
  intro im w args vs r him hargs hF
  unfold plain idxG at hF
  split at hF
  · rename_i s c
    split at hF
    · rename_i hc
      simp only [Option.map_some, Option.some.injEq] at hF; subst hF
      obtain ⟨vs⟩ := vs
      match vs, hargs with
      | [x, y], h =>
        obtain ⟨h1, h2, _⟩ := h
        simp only [RV, RC, RS] at h1 h2
        subst h1 h2
        refine ⟨⟨Try.f56, Try.func56, by kernel_rfl, by kernel_rfl⟩, (index_byte ⟨⟨s⟩⟩ c w hc.1 hc.2).mono ?_⟩
        rintro e w' ⟨rfl, rfl⟩
        exact ⟨_, rfl, Below.refl _ _, by simp [RRes, RV, RC, RS]⟩
    · cases hF
  · cases hF
end Go.Proofs.Ytjjjgagmknlpmaa
