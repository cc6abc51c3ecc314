/- The contracts of strings.Repeat, bits.Mul (by the shelf of the kit) and of slices.Repeat over strings, at this seat. -/
import Derived.Test.YtjjjgagmknlpmaaChecked
import Derived.WalkKit
import Derived.WalkSpells
import Derived.WalkLawsBesides
import Derived.Deep.OwnRows
import Derived.Laws.CopyRow
import Derived.Laws.CopyOwn
import Derived.Shelf.Strings.Repeat
import Derived.Shelf.Bits.Mul64
import Derived.Test.YtjjjgagmknlpmaaAb28
import Derived.Test.YtjjjgagmknlpmaaW1
set_option linter.all false
namespace Go.Proofs
open Go.Shelf
def Try.lays212_ren : Go.Shelf.Ren := ⟨fun | 212 => 44 | 263 => 50 | 264 => 51 | n => n, fun | 46 => 63 | 51 => 72 | 146 => 73 | 53 => 75 | 148 => 76 | n => n, fun | n => n⟩
theorem Try.lays212 : Go.Proofs.Lays.n212 Try.prog Try.lays212_ren := {
  mixed := by kernel_rfl
  f212 := Try.func44.trans (congrArg some (by kernel_rfl))
  f263 := Try.func50.trans (congrArg some (by kernel_rfl))
  f264 := Try.func51.trans (congrArg some (by kernel_rfl))
  t46 := Try.underlying63
  a46 := Try.isAgg63
  z46 := Try.sizeOf63
  v46 := Try.zeroValue63
  t51 := Try.underlying72
  a51 := Try.isAgg72
  z51 := Try.sizeOf72
  v51 := Try.zeroValue72
  t53 := Try.underlying75
  a53 := Try.isAgg75
  z53 := Try.sizeOf75
  v53 := Try.zeroValue75
  t146 := Try.underlying73
  a146 := Try.isAgg73
  z146 := Try.sizeOf73
  v146 := Try.zeroValue73
  t148 := Try.underlying76
  a148 := Try.isAgg76
  z148 := Try.sizeOf76
  v148 := Try.zeroValue76 }
open Go.RowKit Go.Lib in
theorem Try.bits_Mul (x y : Nat) (hx : x < 18446744073709551616) (hy : y < 18446744073709551616) (w : World) :
    Calls Try.prog 44 #[.int .u64 x, .int .u64 y] w fun e w' => e = .returned (.tuple #[.int .u64 ((x * y / 18446744073709551616 : Nat) : Int), .int .u64 ((x * y % 18446744073709551616 : Nat) : Int)]) ∧ w' = w := Any.bits_Mul Try.lays212 x y hx hy w
def Try.lays105_ren : Go.Shelf.Ren := ⟨fun | 105 => 36 | 212 => 44 | 99 => 45 | 165 => 46 | 166 => 21 | 170 => 47 | 169 => 25 | 263 => 50 | 264 => 51 | 206 => 52 | 240 => 35 | 241 => 53 | 276 => 43 | 277 => 55 | n => n, fun | 9 => 9 | 3 => 3 | 4 => 4 | 20 => 20 | 0 => 0 | 46 => 63 | 109 => 66 | 5 => 5 | 72 => 42 | 76 => 46 | 51 => 72 | 146 => 73 | 53 => 75 | 148 => 76 | 70 => 39 | 37 => 40 | 75 => 45 | 127 => 59 | 164 => 64 | 80 => 50 | n => n, fun | n => n⟩
theorem Try.lays105 : Go.Proofs.Lays.n105 Try.prog Try.lays105_ren := {
  mixed := by kernel_rfl
  f99 := Try.func45.trans (congrArg some (by kernel_rfl))
  f105 := Try.func36.trans (congrArg some (by kernel_rfl))
  f165 := Try.func46.trans (congrArg some (by kernel_rfl))
  f166 := Try.func21.trans (congrArg some (by kernel_rfl))
  f169 := Try.func25.trans (congrArg some (by kernel_rfl))
  f170 := Try.func47.trans (congrArg some (by kernel_rfl))
  f206 := Try.func52.trans (congrArg some (by kernel_rfl))
  f212 := Try.func44.trans (congrArg some (by kernel_rfl))
  f240 := Try.func35.trans (congrArg some (by kernel_rfl))
  f241 := Try.func53.trans (congrArg some (by kernel_rfl))
  f263 := Try.func50.trans (congrArg some (by kernel_rfl))
  f264 := Try.func51.trans (congrArg some (by kernel_rfl))
  f276 := Try.func43.trans (congrArg some (by kernel_rfl))
  f277 := Try.func55.trans (congrArg some (by kernel_rfl))
  t0 := Try.underlying0
  a0 := Try.isAgg0
  z0 := Try.sizeOf0
  v0 := Try.zeroValue0
  t3 := Try.underlying3
  a3 := Try.isAgg3
  z3 := Try.sizeOf3
  v3 := Try.zeroValue3
  t4 := Try.underlying4
  a4 := Try.isAgg4
  z4 := Try.sizeOf4
  v4 := Try.zeroValue4
  t5 := Try.underlying5
  a5 := Try.isAgg5
  z5 := Try.sizeOf5
  v5 := Try.zeroValue5
  t9 := Try.underlying9
  a9 := Try.isAgg9
  z9 := Try.sizeOf9
  v9 := Try.zeroValue9
  t20 := Try.underlying20
  a20 := Try.isAgg20
  z20 := Try.sizeOf20
  v20 := Try.zeroValue20
  t37 := Try.underlying40
  a37 := Try.isAgg40
  z37 := Try.sizeOf40
  v37 := Try.zeroValue40
  t46 := Try.underlying63
  a46 := Try.isAgg63
  z46 := Try.sizeOf63
  v46 := Try.zeroValue63
  t51 := Try.underlying72
  a51 := Try.isAgg72
  z51 := Try.sizeOf72
  v51 := Try.zeroValue72
  t53 := Try.underlying75
  a53 := Try.isAgg75
  z53 := Try.sizeOf75
  v53 := Try.zeroValue75
  t70 := Try.underlying39
  a70 := Try.isAgg39
  z70 := Try.sizeOf39
  v70 := Try.zeroValue39
  t72 := Try.underlying42
  a72 := Try.isAgg42
  z72 := Try.sizeOf42
  v72 := Try.zeroValue42
  t75 := Try.underlying45
  a75 := Try.isAgg45
  z75 := Try.sizeOf45
  v75 := Try.zeroValue45
  t76 := Try.underlying46
  a76 := Try.isAgg46
  z76 := Try.sizeOf46
  v76 := Try.zeroValue46
  t109 := Try.underlying66
  a109 := Try.isAgg66
  z109 := Try.sizeOf66
  v109 := Try.zeroValue66
  t127 := Try.underlying59
  a127 := Try.isAgg59
  z127 := Try.sizeOf59
  v127 := Try.zeroValue59
  t146 := Try.underlying73
  a146 := Try.isAgg73
  z146 := Try.sizeOf73
  v146 := Try.zeroValue73
  t148 := Try.underlying76
  a148 := Try.isAgg76
  z148 := Try.sizeOf76
  v148 := Try.zeroValue76
  t164 := Try.underlying64
  a164 := Try.isAgg64
  z164 := Try.sizeOf64
  v164 := Try.zeroValue64 }
theorem Try.Builder_Extra_105 : Builder.Extra Try.prog Try.lays105_ren := {
  sizeBuilder := by kernel_rfl
  liesBuilder := by kernel_rfl
  t5 := Try.underlying5
  a5 := Try.isAgg5
  z5 := Try.sizeOf5
  v5 := Try.zeroValue5
  infoByte := by kernel_rfl
  cellsByte := by kernel_rfl
  sizeByte := by kernel_rfl
  neB5 := by decide }
open Go.RowKit Go.Lib in
theorem Try.strings_Repeat (s : ByteArray) (c : Nat) (w : World) (hc : c ≤ 9223372036854775807) (hlen : s.size * c ≤ 140737488355328) :
    Calls Try.prog 36 #[.string s, .int .i64 c] w fun e w' => e = .returned (.string ⟨(Lib.repeatL s.data.toList c).toArray⟩) ∧ Below w.heap.size w w' := Any.strings_Repeat Try.lays105 Try.Builder_Extra_105 s c w hc hlen

end Go.Proofs
namespace Go.Proofs.Ytjjjgagmknlpmaa
open Go Go.Ab Go.Proofs Go.RowKit Go.Fs
def repG : List V → Option V
  | [.c (.s (.str s)), .c (.s (.int .i64 n))] => if 0 ≤ n ∧ n ≤ 1048576 ∧ s.length ≤ 16777216 then some (.c (.s (.str (Lib.repeatL s n.toNat)))) else none
  | _ => none
theorem repG_call {s : Bs} {n : Int} {gt : Bool} {K : V → Prop} : callE repG [.c (.s (.str s)), .c (.s (.int .i64 n))] gt K = ((gt = true → 0 ≤ n ∧ n ≤ 1048576 ∧ s.length ≤ 16777216) ∧ bindV (ifV gt (.c (.s (.str (Lib.repeatL s n.toNat))))) K) := callE_of rfl
theorem repG_callo {s : Bs} {n : Int} {m : Nat → Option Ab.Obj} {locs : List Nat} {K : V → (Nat → Option Ab.Obj) → Prop} : callO repG (some [.c (.s (.str s)), .c (.s (.int .i64 n))]) m locs K = ((0 ≤ n ∧ n ≤ 1048576 ∧ s.length ≤ 16777216) ∧ K (.c (.s (.str (Lib.repeatL s n.toNat)))) (sealW m locs (.c (.s (.str (Lib.repeatL s n.toNat)))))) := callO_of rfl
attribute [go_sem] repG_call repG_callo

theorem contract_strings_Repeat : Contract Try.prog 36 (plain repG) := by
  intro im w args vs r him hargs hF
  unfold plain repG at hF
  split at hF
  · rename_i s n
    split at hF
    · rename_i hc
      simp only [Option.map_some, Option.some.injEq] at hF; subst hF
      obtain ⟨vs⟩ := vs
      match vs, hargs with
      | [x, y], h =>
        obtain ⟨h1, h2, _⟩ := h
        simp only [RV, RC, RS] at h1 h2
        subst h1 h2
        obtain ⟨k, rfl⟩ : ∃ k : Nat, n = k := ⟨n.toNat, by omega⟩
        refine ⟨⟨Try.f36, Try.func36, by kernel_rfl, by kernel_rfl⟩, (Try.strings_Repeat ⟨⟨s⟩⟩ k w (by omega) ?_).mono ?_⟩
        · have h1 : s.length * k ≤ 16777216 * 1048576 := Nat.mul_le_mul hc.2.2 (by omega)
          show s.length * k ≤ _
          omega
        rintro e w' ⟨rfl, hB⟩
        exact ⟨_, rfl, hB, by simp [RRes, RV, RC, RS]⟩
    · cases hF
  · cases hF
theorem rep_one (c : UInt8) : ∀ n, Lib.repeatL [c] n = List.replicate n c := fun n => by
  have := Lib.repeatL_replicate c 1 n
  simpa using this
end Go.Proofs.Ytjjjgagmknlpmaa
