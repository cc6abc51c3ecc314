/- The four functions of strings.Builder, walked at this seat. -/
import Derived.Test.YtniioedflegdkaaChecked
import Derived.WalkKit
import Derived.WalkSpells
import Derived.WalkLawsBesides
import Derived.Lib.Builder
import Derived.Lib.UnsafeStr
import Derived.Lib.Walk
import Derived.Lib.Strings
import Derived.Shelf.RegionOpenPlain
import Derived.Test.YtniioedflegdkaaAb20
set_option linter.all false
namespace Go.Proofs.Ytniioedflegdkaa
open Go Go.Ab Go.Proofs Go.RowKit
theorem infoT : (Try.prog.info? 135).map (·.size) = some 2 := by kernel_rfl
set_option maxHeartbeats 1000000 in
set_option maxRecDepth 100000 in
theorem copy_used (b : Nat) (w : World) (h0 : w.cell? ⟨b, 0, none⟩ = some (.pointer (some ⟨b, 0, none⟩))) :
    Calls Try.prog 88 #[.pointer (some ⟨b, 0, none⟩)] w fun e w' => e = .returned (.tuple #[]) ∧ w' = w := by
  obtain ⟨j, hj, _⟩ := Option.map_eq_some_iff.1 infoT
  go_enter Try.func88, Try.ntmps88
  go_wp2
  rw [Lib.run_neq_ptr_same w _ Try.underlying133 hj]
  go_wp2
  go_end0
  exact ⟨rfl, rfl⟩
set_option maxHeartbeats 1000000 in
set_option maxRecDepth 100000 in
theorem copy_fresh (b : Nat) (w : World) (h0 : w.cell? ⟨b, 0, none⟩ = some (.pointer none)) (hsh : w.shape? b = some (135, 2)) (hfz : w.frozen? ⟨b, 0, none⟩ = false) :
    Calls Try.prog 88 #[.pointer (some ⟨b, 0, none⟩)] w fun e w' => e = .returned (.tuple #[]) ∧ w' = w.setCell ⟨b, 0, none⟩ (.pointer (some ⟨b, 0, none⟩)) := by
  obtain ⟨j, hj, hjs⟩ := Option.map_eq_some_iff.1 infoT
  go_enter Try.func88, Try.ntmps88
  go_wp2
  rw [Lib.run_to_unsafe w ⟨b, 0, none⟩ Try.underlying133 Try.underlying159 hj (by rw [hjs]; decide) hsh (Nat.zero_lt_succ 1)]
  simp only [Result.andThen]
  rw [Oper.upon_value]
  go_wp2
  rw [run_callFunc_extern Try.func93 (by kernel_rfl) (by kernel_rfl) (by kernel_rfl) (e := Extern.AbiNoEscape.same) (by kernel_rfl)]
  rw [Lib.run_noEscape]
  simp only [Result.andThen]
  rw [Oper.upon_value]
  go_wp2
  rw [Lib.run_from_unsafe w ⟨b, 0, none⟩ Try.underlying159 Try.underlying133 hj hsh (by kernel_rfl)]
  simp only [Result.andThen]
  rw [Oper.upon_value]
  go_wp2
  go_end0
  exact ⟨rfl, rfl⟩
theorem copy_any {w : World} {b : Nat} {s : List UInt8} {g : Option Nat} (h : BSt w b (135, 5) s g) :
    Calls Try.prog 88 #[.pointer (some ⟨b, 0, none⟩)] w fun e w' => e = .returned (.tuple #[]) ∧ CTurn w w' b ∧ ∃ base cap, UBld w' b (135, 5) base cap s g := by
  rcases bst_cases h with ⟨rfl, rfl, hb⟩ | ⟨base, cap, hU⟩
  · refine (copy_fresh b w (by rw [Lib.cell_of_heap hb]; rfl) (by simp [World.shape?, hb]) (by simp [World.frozen?, hb])).mono ?_
    rintro e w' ⟨rfl, rfl⟩
    exact ⟨rfl, (fresh_used hb).2, none, 0, (fresh_used hb).1⟩
  · refine (copy_used b w (by rw [Lib.cell_of_heap hU.blk]; rfl)).mono ?_
    rintro e w' ⟨rfl, rfl⟩
    exact ⟨rfl, CTurn.refl b, base, cap, hU⟩

theorem sz5 : sizeT Try.prog 5 = some 1 := by kernel_rfl
theorem by5 : bytesT Try.prog 5 = some 1 := by kernel_rfl
theorem zr5 : ∃ i, Try.prog.info? 5 = some i ∧ i.zero = some (.int .u8 0) := by
  have h : (Try.prog.info? 5).bind (·.zero) = some (.int .u8 0) := by kernel_rfl
  obtain ⟨i, h1, h2⟩ := Option.bind_eq_some_iff.1 h
  exact ⟨i, h1, h2⟩

set_option maxHeartbeats 2000000 in
set_option maxRecDepth 100000 in
theorem write_string (w : World) (b : Nat) (s tb : List UInt8) (g : Option Nat) (h : BSt w b (135, 5) s g) (hlen : s.length + tb.length < 35184372088832) :
    Calls Try.prog 74 #[.pointer (some ⟨b, 0, none⟩), .string ⟨⟨tb⟩⟩] w fun e w' => e = .returned (.tuple #[.int .i64 tb.length, .nilIface]) ∧ ∃ g', BTurn w w' b (135, 5) (s ++ tb) g g' := by
  go_enter Try.func74, Try.ntmps74
  go_wp2_with (go_at_call 88; refine (copy_any h).mono ?_)
  rintro e w1 ⟨rfl, hC, base, cap, hU⟩
  have c0 : w1.cell? ⟨b, 0, none⟩ = some (.pointer (some ⟨b, 0, none⟩)) := by rw [Lib.cell_of_heap hU.blk]; rfl
  have c1 : w1.cell? ⟨b, 1, none⟩ = some (.slice base s.length cap) := by rw [Lib.cell_of_heap hU.blk]; rfl
  obtain ⟨base', cap', w2, g', hrun, hT⟩ := bld_append (P := Try.prog) (ty := 132) (y := .string ⟨⟨tb⟩⟩) (tb := tb) Try.underlying132 (.inl Try.underlying9) sz5 by5 zr5 hU.row (by simp [Builtin.lenOf, ByteArray.size])
    (fun w2 hw2 => by simp [Builtin.firstCells, u8s]) (by omega)
  obtain ⟨hb', hfin⟩ := bld_end hC hU (fun k hk => rfl) (Nat.le_refl _) ⟨rfl, rfl, rfl⟩ hT
  have f1 : w2.frozen? ⟨b, 1, none⟩ = false := Lib.frozen_of_heap hb' 1
  have d1 : w2.cell? ⟨b, 1, none⟩ = some (.slice base s.length cap) := by rw [Lib.cell_of_heap hb']; rfl
  clear hT
  go_wp2_with (at_builtin; refine wpList_run rfl (u := .slice base' (s.length + tb.length) cap') (w' := w2) ?hr ?_)
  case hr =>
    simp [execOp, resolve, invoke, builtin, Act.eval]
    rw [hrun]
    rfl
  go_wp2
  go_ret2
  refine ⟨rfl, g', ?_⟩
  simpa using hfin

set_option maxHeartbeats 2000000 in
set_option maxRecDepth 100000 in
theorem string_nil (w : World) (b : Nat) (p : Value) (hb : w.heap[b]? = some (.cells #[p, .slice none 0 0] 135 (0, 0))) :
    Calls Try.prog 75 #[.pointer (some ⟨b, 0, none⟩)] w fun e w' => e = .returned (.string ⟨#[]⟩) ∧ w' = w.drew := by
  have c1 : w.drew.cell? ⟨b, 1, none⟩ = some (.slice none 0 0) := by
    have : w.drew.heap[b]? = some (.cells #[p, .slice none 0 0] 135 (0, 0)) := hb
    rw [Lib.cell_of_heap this]; rfl
  have hUS : ∀ (ty : TypeId) (pt it : TypeId) (W : World) (q : Option Addr), (Builtin.unsafeString_ #[pt, it] ty #[.pointer q, .int .i64 0]).run Try.prog W = .ok (.string .empty) W := fun ty pt it W q => Lib.run_unsafeString_none W pt it ty q
  have mixed : Try.prog.follows .mixedOrders = true := by kernel_rfl
  have hSD : ∀ (ty : TypeId), (Builtin.unsafeSliceData_ #[132] ty #[.slice none 0 0]).run Try.prog w.drew = .ok (.pointer none) w.drew := fun _ => rfl
  go_enter Try.func75, Try.ntmps75
  go_wp2
  go_region_o
  all_goals (go_wp2; go_ret; exact ⟨rfl, rfl⟩)

set_option maxHeartbeats 2000000 in
set_option maxRecDepth 100000 in
theorem string_room (w : World) (b b2 : Nat) (p : Value) (cap : Nat) (hb : w.heap[b]? = some (.cells #[p, .slice (some ⟨b2, 0, none⟩) 0 cap] 135 (0, 0))) (hcap : 0 < cap) :
    Calls Try.prog 75 #[.pointer (some ⟨b, 0, none⟩)] w fun e w' => e = .returned (.string ⟨#[]⟩) ∧ w' = w.drew := by
  have mixed : Try.prog.follows .mixedOrders = true := by kernel_rfl
  have c1 : w.drew.cell? ⟨b, 1, none⟩ = some (.slice (some ⟨b2, 0, none⟩) 0 cap) := by
    have : w.drew.heap[b]? = some (.cells #[p, .slice (some ⟨b2, 0, none⟩) 0 cap] 135 (0, 0)) := hb
    rw [Lib.cell_of_heap this]; rfl
  have hUS : ∀ (ty : TypeId) (pt it : TypeId) (W : World) (q : Option Addr), (Builtin.unsafeString_ #[pt, it] ty #[.pointer q, .int .i64 0]).run Try.prog W = .ok (.string .empty) W := fun ty pt it W q => Lib.run_unsafeString_none W pt it ty q
  have hSD : ∀ (ty : TypeId), (Builtin.unsafeSliceData_ #[132] ty #[.slice (some ⟨b2, 0, none⟩) 0 cap]).run Try.prog w.drew = .ok (.pointer (some ⟨b2, 0, none⟩)) w.drew := fun ty =>
    Lib.run_unsafeSliceData_row _ _ _ _ _ _ (by omega)
  clear hcap
  go_enter Try.func75, Try.ntmps75
  go_wp2
  go_region_o
  all_goals (go_wp2; go_ret; exact ⟨rfl, rfl⟩)

set_option maxHeartbeats 2000000 in
set_option maxRecDepth 100000 in
theorem string_row (w : World) (b b2 : Nat) (p : Value) (s : List UInt8) (cap : Nat) (arr : Array Value) (fr : Nat × Nat) (hs : s ≠ []) (hb : w.heap[b]? = some (.cells #[p, .slice (some ⟨b2, 0, none⟩) s.length cap] 135 (0, 0)))
    (h2 : w.heap[b2]? = some (.cells arr 5 fr)) (g1 : arr.size = cap) (g2 : s.length ≤ cap) (g5 : ∀ i (h : i < s.length), arr[i]? = some (.int .u8 (s[i].toNat : Int))) (g6 : s.length ≤ 9223372036854775807) :
    Calls Try.prog 75 #[.pointer (some ⟨b, 0, none⟩)] w fun e w' => e = .returned (.string ⟨⟨s⟩⟩) ∧ w' = w.drew.freeze ⟨b2, 0, none⟩ s.length := by
  have hl : s.length ≠ 0 := by simpa using hs
  have mixed : Try.prog.follows .mixedOrders = true := by kernel_rfl
  have c1 : w.drew.cell? ⟨b, 1, none⟩ = some (.slice (some ⟨b2, 0, none⟩) s.length cap) := by
    have : w.drew.heap[b]? = some (.cells #[p, .slice (some ⟨b2, 0, none⟩) s.length cap] 135 (0, 0)) := hb
    rw [Lib.cell_of_heap this]; rfl
  have h2' : w.drew.heap[b2]? = some (.cells arr 5 fr) := h2
  have hSD : ∀ (ty : TypeId), (Builtin.unsafeSliceData_ #[132] ty #[.slice (some ⟨b2, 0, none⟩) s.length cap]).run Try.prog w.drew = .ok (.pointer (some ⟨b2, 0, none⟩)) w.drew := fun ty =>
    Lib.run_unsafeSliceData_row _ _ _ _ _ _ (by omega)
  have hUS : ∀ (ty it : TypeId), (Builtin.unsafeString_ #[152, it] ty #[.pointer (some ⟨b2, 0, none⟩), .int .i64 s.length]).run Try.prog w.drew = .ok (.string ⟨s.toArray⟩) (w.drew.freeze ⟨b2, 0, none⟩ s.length) := fun ty it => by
    refine Lib.run_unsafeString_row w.drew 152 it ty 5 Try.underlying152 (by kernel_rfl) b2 arr.size (by simp [World.shape?, h2']) s hs (by omega) g6 ?_
    intro j x hx
    have hjl := (List.getElem?_eq_some_iff.1 hx).1
    have hx' : s[j] = x := (List.getElem?_eq_some_iff.1 hx).2
    have hadd : (⟨b2, 0, none⟩ : Addr).add j = ⟨b2, j, none⟩ := by unfold Addr.add; split <;> simp_all
    rw [hadd, Lib.cell_of_heap h2', g5 j hjl, hx']
  go_enter Try.func75, Try.ntmps75
  go_wp2
  go_region_o
  all_goals (go_wp2; go_ret; exact ⟨rfl, rfl⟩)

theorem get_string (w : World) (b : Nat) (s : List UInt8) (g : Option Nat) (h : BSt w b (135, 5) s g) (hl : s.length < 35184372088832) :
    Calls Try.prog 75 #[.pointer (some ⟨b, 0, none⟩)] w fun e w' => e = .returned (.string ⟨⟨s⟩⟩) ∧ ∃ g', BTurn w w' b (135, 5) s g g' := by
  have h' := h
  rcases h with ⟨rfl, rfl, p, hp, hb⟩ | ⟨b2, arr, cap, fr, rfl, hne, hb, h2, g1, g2, g3, g4, g5⟩
  · refine (string_nil w b _ hb).mono ?_
    rintro e w' ⟨rfl, rfl⟩
    exact ⟨rfl, none, drew_turn h'⟩
  · by_cases hs : s = []
    · subst hs
      refine (string_room w b b2 _ cap hb g3).mono ?_
      rintro e w' ⟨rfl, rfl⟩
      exact ⟨rfl, _, drew_turn h'⟩
    · refine (string_row w b b2 _ s cap arr fr hs hb h2 g1 g2 g5 (by omega)).mono ?_
      rintro e w' ⟨rfl, rfl⟩
      exact ⟨rfl, _, freeze_turn hs hb rfl hne h2 g1 g2 g3 g4 g5⟩

theorem bldW : BldW Try.prog := by
  have only : ∀ (name : String) (k : Nat), ((Try.prog.funcs.toList.zipIdx).all fun p => p.1.name != name || p.2 == k) = true → ∀ f fn, Try.prog.funcs[f]? = some fn → fn.name = name → f = k := by
    intro name k h f fn hf hn
    have hmem : (fn, f) ∈ Try.prog.funcs.toList.zipIdx := by
      rw [List.mem_zipIdx_iff_getElem?]
      simpa using hf
    have := List.all_eq_true.1 h _ hmem
    simpa [hn] using this
  refine ⟨fun f fn hf hn => ?_, fun f fn hf hn => ?_, fun f fn hf hn => ?_⟩
  · exact absurd hn (by
      have h : ((Try.prog.funcs.toList).all fun p => p.name != nmByte) = true := by kernel_rfl
      have := List.all_eq_true.1 h fn (List.mem_iff_getElem?.2 ⟨f, by simpa using hf⟩)
      simpa using this)
  · have e := only nmStr 74 (by kernel_rfl) f fn hf hn
    subst e
    have e2 : fn = Try.f74 := by rw [Try.func74] at hf; exact (Option.some.inj hf).symm
    subst e2
    have hp : ptrT Try.prog Try.f74 = (135, 5) := by kernel_rfl
    rw [hp]
    exact ⟨⟨Try.f74, Try.func74, by kernel_rfl, by kernel_rfl⟩, fun w b s t g h h0 => write_string w b s t g h h0⟩
  · have e := only nmGet 75 (by kernel_rfl) f fn hf hn
    subst e
    have e2 : fn = Try.f75 := by rw [Try.func75] at hf; exact (Option.some.inj hf).symm
    subst e2
    have hp : ptrT Try.prog Try.f75 = (135, 5) := by kernel_rfl
    rw [hp]
    exact ⟨⟨Try.f75, Try.func75, by kernel_rfl, by kernel_rfl⟩, fun w b s g h h0 => get_string w b s g h h0⟩
end Go.Proofs.Ytniioedflegdkaa
