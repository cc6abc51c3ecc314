/- What the program's own facts give to every law. -/
import Derived.Test.YtniioedflegdkaaRows
import Derived.Test.YtniioedflegdkaaAb30
set_option linter.all false
namespace Go.Proofs.Ytniioedflegdkaa
open Go Go.Ab Go.Proofs
theorem prog_own : ownKnob Try.prog.godebug = none := by kernel_rfl
theorem prog_own2 : ownKnob Try.checked.prog.godebug = none := by kernel_rfl
theorem prog_laid : laidOutB Try.prog = true := by kernel_rfl
theorem prog_bool : Try.prog.underlying 4 = some .bool := by kernel_rfl
theorem upto_one {H : Type} (d : DataW H) : 1 ≤ Rows.uptoBulk d := by
  cases d with
  | lit l => cases l <;> simp [Rows.uptoBulk]
  | _ => simp [Rows.uptoBulk]
theorem upto_laws {H : Type} : BulkLaws (H := H) Rows.uptoBulk Rows.uptoBulkAll where
  one := upto_one
  str := fun s => by simp [Rows.uptoBulk]
  slice := fun a b => by simp only [Rows.uptoBulk]; omega
  agg := fun a => by simp only [Rows.uptoBulk]; omega
  nil := by simp [Rows.uptoBulkAll]
  cons := fun x r => by simp [Rows.uptoBulkAll]
theorem upto_args {H : Type} {enc : TypeId × Value → H} {P : Program} {ts : List TypeId} {vars : List String} {apart : Bool} {W : World} {vs : List Value} {ds gs : List (DataW H)} {before : List MemPlace} (hW : DataW.Whole enc P ts vars apart W vs ds gs before) (hv : vars = [])
    (hk : Rows.uptoSmall H (ds ++ gs) = true) : Rows.uptoBulkAll ds ≤ 1048576 := by
  obtain ⟨_, _, _, hV, _⟩ := hW
  subst hv
  have : gs = [] := by
    match gs, hV with
    | [], _ => rfl
  subst this
  rw [List.append_nil] at hk
  exact of_decide_eq_true hk
theorem enc_strs : ∀ {rows : List (List S)}, (∀ r ∈ rows, EncR .str r) → ∃ l : List (List UInt8), rows = encs strE l ∧ ∀ s ∈ l, s.length ≤ maxLen
  | [], _ => ⟨[], rfl, by simp⟩
  | r :: rows, h => by
    have h0 := h r (by simp)
    simp only [EncR] at h0
    obtain ⟨s, rfl, hs⟩ := h0
    obtain ⟨l, rfl, hl⟩ := enc_strs fun x hx => h x (List.mem_cons_of_mem _ hx)
    exact ⟨s :: l, rfl, fun x hx => by
      rcases List.mem_cons.1 hx with rfl | hx
      · exact hs
      · exact hl x hx⟩
end Go.Proofs.Ytniioedflegdkaa
