/- The contracts of strings.Repeat, bits.Mul (by the shelf of the kit) and of slices.Repeat over strings, at this seat. -/
import Derived.Test.YtcnemnehjpaggaaChecked
import Derived.WalkKit
import Derived.WalkSpells
import Derived.WalkLawsBesides
import Derived.Deep.OwnRows
import Derived.Laws.CopyRow
import Derived.Laws.CopyOwn
import Derived.Shelf.Strings.Repeat
import Derived.Shelf.Bits.Mul64
import Derived.Test.YtcnemnehjpaggaaAb28
import Derived.Test.YtcnemnehjpaggaaW1
set_option linter.all false
namespace Go.Proofs
open Go.Shelf
def Try.lays212_ren : Go.Shelf.Ren := ⟨fun | 212 => 41 | 263 => 51 | 264 => 52 | n => n, fun | 46 => 75 | 51 => 94 | 146 => 95 | 53 => 97 | 148 => 98 | n => n, fun | n => n⟩
theorem Try.lays212 : Go.Proofs.Lays.n212 Try.prog Try.lays212_ren := {
  mixed := by kernel_rfl
  f212 := Try.func41.trans (congrArg some (by kernel_rfl))
  f263 := Try.func51.trans (congrArg some (by kernel_rfl))
  f264 := Try.func52.trans (congrArg some (by kernel_rfl))
  t46 := Try.underlying75
  a46 := Try.isAgg75
  z46 := Try.sizeOf75
  v46 := Try.zeroValue75
  t51 := Try.underlying94
  a51 := Try.isAgg94
  z51 := Try.sizeOf94
  v51 := Try.zeroValue94
  t53 := Try.underlying97
  a53 := Try.isAgg97
  z53 := Try.sizeOf97
  v53 := Try.zeroValue97
  t146 := Try.underlying95
  a146 := Try.isAgg95
  z146 := Try.sizeOf95
  v146 := Try.zeroValue95
  t148 := Try.underlying98
  a148 := Try.isAgg98
  z148 := Try.sizeOf98
  v148 := Try.zeroValue98 }
open Go.RowKit Go.Lib in
theorem Try.bits_Mul (x y : Nat) (hx : x < 18446744073709551616) (hy : y < 18446744073709551616) (w : World) :
    Calls Try.prog 41 #[.int .u64 x, .int .u64 y] w fun e w' => e = .returned (.tuple #[.int .u64 ((x * y / 18446744073709551616 : Nat) : Int), .int .u64 ((x * y % 18446744073709551616 : Nat) : Int)]) ∧ w' = w := Any.bits_Mul Try.lays212 x y hx hy w
def Try.lays105_ren : Go.Shelf.Ren := ⟨fun | 105 => 28 | 212 => 41 | 99 => 42 | 165 => 43 | 166 => 44 | 170 => 45 | 169 => 46 | 263 => 51 | 264 => 52 | 206 => 53 | 240 => 54 | 241 => 55 | 276 => 56 | 277 => 57 | n => n, fun | 9 => 9 | 3 => 3 | 4 => 4 | 20 => 20 | 0 => 0 | 46 => 75 | 109 => 76 | 5 => 5 | 72 => 82 | 76 => 86 | 51 => 94 | 146 => 95 | 53 => 97 | 148 => 98 | 70 => 79 | 37 => 80 | 75 => 85 | 127 => 100 | 164 => 101 | 80 => 89 | n => n, fun | n => n⟩
theorem Try.lays105 : Go.Proofs.Lays.n105 Try.prog Try.lays105_ren := {
  mixed := by kernel_rfl
  f99 := Try.func42.trans (congrArg some (by kernel_rfl))
  f105 := Try.func28.trans (congrArg some (by kernel_rfl))
  f165 := Try.func43.trans (congrArg some (by kernel_rfl))
  f166 := Try.func44.trans (congrArg some (by kernel_rfl))
  f169 := Try.func46.trans (congrArg some (by kernel_rfl))
  f170 := Try.func45.trans (congrArg some (by kernel_rfl))
  f206 := Try.func53.trans (congrArg some (by kernel_rfl))
  f212 := Try.func41.trans (congrArg some (by kernel_rfl))
  f240 := Try.func54.trans (congrArg some (by kernel_rfl))
  f241 := Try.func55.trans (congrArg some (by kernel_rfl))
  f263 := Try.func51.trans (congrArg some (by kernel_rfl))
  f264 := Try.func52.trans (congrArg some (by kernel_rfl))
  f276 := Try.func56.trans (congrArg some (by kernel_rfl))
  f277 := Try.func57.trans (congrArg some (by kernel_rfl))
  t0 := Try.underlying0
  a0 := Try.isAgg0
  z0 := Try.sizeOf0
  v0 := Try.zeroValue0
  t3 := Try.underlying3
  a3 := Try.isAgg3
  z3 := Try.sizeOf3
  v3 := Try.zeroValue3
  t4 := Try.underlying4
  a4 := Try.isAgg4
  z4 := Try.sizeOf4
  v4 := Try.zeroValue4
  t5 := Try.underlying5
  a5 := Try.isAgg5
  z5 := Try.sizeOf5
  v5 := Try.zeroValue5
  t9 := Try.underlying9
  a9 := Try.isAgg9
  z9 := Try.sizeOf9
  v9 := Try.zeroValue9
  t20 := Try.underlying20
  a20 := Try.isAgg20
  z20 := Try.sizeOf20
  v20 := Try.zeroValue20
  t37 := Try.underlying80
  a37 := Try.isAgg80
  z37 := Try.sizeOf80
  v37 := Try.zeroValue80
  t46 := Try.underlying75
  a46 := Try.isAgg75
  z46 := Try.sizeOf75
  v46 := Try.zeroValue75
  t51 := Try.underlying94
  a51 := Try.isAgg94
  z51 := Try.sizeOf94
  v51 := Try.zeroValue94
  t53 := Try.underlying97
  a53 := Try.isAgg97
  z53 := Try.sizeOf97
  v53 := Try.zeroValue97
  t70 := Try.underlying79
  a70 := Try.isAgg79
  z70 := Try.sizeOf79
  v70 := Try.zeroValue79
  t72 := Try.underlying82
  a72 := Try.isAgg82
  z72 := Try.sizeOf82
  v72 := Try.zeroValue82
  t75 := Try.underlying85
  a75 := Try.isAgg85
  z75 := Try.sizeOf85
  v75 := Try.zeroValue85
  t76 := Try.underlying86
  a76 := Try.isAgg86
  z76 := Try.sizeOf86
  v76 := Try.zeroValue86
  t109 := Try.underlying76
  a109 := Try.isAgg76
  z109 := Try.sizeOf76
  v109 := Try.zeroValue76
  t127 := Try.underlying100
  a127 := Try.isAgg100
  z127 := Try.sizeOf100
  v127 := Try.zeroValue100
  t146 := Try.underlying95
  a146 := Try.isAgg95
  z146 := Try.sizeOf95
  v146 := Try.zeroValue95
  t148 := Try.underlying98
  a148 := Try.isAgg98
  z148 := Try.sizeOf98
  v148 := Try.zeroValue98
  t164 := Try.underlying101
  a164 := Try.isAgg101
  z164 := Try.sizeOf101
  v164 := Try.zeroValue101 }
theorem Try.Builder_Extra_105 : Builder.Extra Try.prog Try.lays105_ren := {
  sizeBuilder := by kernel_rfl
  liesBuilder := by kernel_rfl
  t5 := Try.underlying5
  a5 := Try.isAgg5
  z5 := Try.sizeOf5
  v5 := Try.zeroValue5
  infoByte := by kernel_rfl
  cellsByte := by kernel_rfl
  sizeByte := by kernel_rfl
  neB5 := by decide }
open Go.RowKit Go.Lib in
theorem Try.strings_Repeat (s : ByteArray) (c : Nat) (w : World) (hc : c ≤ 9223372036854775807) (hlen : s.size * c ≤ 140737488355328) :
    Calls Try.prog 28 #[.string s, .int .i64 c] w fun e w' => e = .returned (.string ⟨(Lib.repeatL s.data.toList c).toArray⟩) ∧ Below w.heap.size w w' := Any.strings_Repeat Try.lays105 Try.Builder_Extra_105 s c w hc hlen

end Go.Proofs
namespace Go.Proofs.Ytcnemnehjpaggaa
open Go Go.Ab Go.Proofs Go.RowKit Go.Fs
theorem infoS : (Try.prog.info? 9).map (fun i => (i.zero, i.size, i.bytes)) = some (some (.string ⟨#[]⟩), 1, 16) := by kernel_rfl
def rowK (s : ByteArray) (n k : Nat) : List Value := List.replicate k (.string s) ++ List.replicate (n - k) (.string ⟨#[]⟩)
theorem rowK_len (s : ByteArray) (n k : Nat) (h : k ≤ n) : (rowK s n k).length = n := by simp [rowK]; omega
theorem rowK_get (s : ByteArray) (n k j : Nat) (h : j < k) : (rowK s n k)[j]? = some (.string s) := by
  unfold rowK; rw [List.getElem?_append_left (by simpa using h)]; simp [h]
theorem rowK_step (s : ByteArray) (n k m : Nat) (h : k + m ≤ n) : ((rowK s n k).take k ++ List.replicate m (.string s) ++ (rowK s n k).drop (k + m)) = rowK s n (k + m) := by
  unfold rowK
  rw [List.take_left' (by simp), List.drop_append, List.drop_eq_nil_of_le (by simp), List.nil_append, List.drop_replicate, List.replicate_append_replicate]
  congr 2
  simp; omega
set_option maxHeartbeats 1000000 in
set_option maxRecDepth 100000 in
theorem rep_walk (s : ByteArray) (n : Nat) (b o cap : Nat) (w : World) (hx : w.cell? ⟨b, o, none⟩ = some (.string s)) (hb : b < w.heap.size) (h1 : 1 ≤ n) (h2 : n ≤ 300) :
    Calls Try.prog 27 #[.slice (some ⟨b, o, none⟩) 1 cap, .int .i64 n] w fun e w' => e = .returned (.slice (some ⟨w.heap.size, 0, none⟩) n n) ∧ Below w.heap.size w w' ∧ w'.heap[w.heap.size]? = some (.cells (rowK s n n).toArray 9 (0, 0)) := by
  have hM := Try.bits_Mul 1 n (by omega) (by omega) w
  rw [Nat.one_mul, Nat.div_eq_of_lt (by omega : n < 18446744073709551616), Nat.mod_eq_of_lt (by omega : n < 18446744073709551616)] at hM
  have hnn : ¬ ((n : Int) < 0) := by omega
  have ew : ((n : Int) % 18446744073709551616) = n := by omega
  have hmk := fun w => run_make_row' (P := Try.prog) 22 9 (.string ⟨#[]⟩) 16 Try.underlying22 infoS rfl .i64 .i64 n (by omega) (by omega) w
  have e0 : madeCells #[Value.string ⟨#[]⟩] n = (rowK s n 0).toArray := by
    simp only [rowK, madeCells, List.replicate_zero, List.nil_append, Nat.sub_zero]
    apply Array.ext
    · simp
    · intro i h1 h2; simp [Nat.mod_one]
  have hr := rowK_len s n
  have hcp1 : ∀ ty, (Builtin.copy_ #[22, 22] ty #[.slice (some ⟨w.heap.size, 0, none⟩) n n, .slice (some ⟨b, o, none⟩) 1 cap]).run Try.prog (w.alloc (.cells (rowK s n 0).toArray 9)) = .ok (.int .i64 1) ((w.alloc (.cells (rowK s n 0).toArray 9)).setRow w.heap.size (rowK s n 1).toArray) := fun ty => by
    have h := run_copy_row (P := Try.prog) (w.alloc (.cells (rowK s n 0).toArray 9)) 22 22 ty 9 w.heap.size 0 n n ⟨b, o, none⟩ 1 cap (rowK s n 0).toArray 9 [.string s] Try.underlying22 (by kernel_rfl) (heap_alloc_new w _)
      (by simp [Nat.min_def]; omega) (fun j v hj => by
        match j, hj with
        | 0, hj =>
          simp only [List.getElem?_cons_zero, Option.some.injEq] at hj
          subst hj
          have e : (⟨b, o, none⟩ : Addr).add 0 = ⟨b, o, none⟩ := by simp [Addr.add]
          rw [e, cell_eq (Lib.alloc_old w _ b hb)]; exact hx) (by simp [hr 0 (by omega)]; omega) (by simp [Value.oneCell'])
    rw [h]
    have := rowK_step s n 0 1 (by omega)
    simp only [List.replicate_one, Nat.zero_add, List.take_zero, List.nil_append] at this
    simp only [List.length_cons, List.length_nil, Nat.zero_add, List.take_zero, List.nil_append]
    rw [this]; rfl
  have w1 : ((w.alloc (.cells (rowK s n 0).toArray 9)).setRow w.heap.size (rowK s n 1).toArray).heap[w.heap.size]? = some (.cells (rowK s n 1).toArray 9 (0, 0)) := setRow_heap _ _ _ _ _ _ (heap_alloc_new w _)
  have w2 : Below w.heap.size w ((w.alloc (.cells (rowK s n 0).toArray 9)).setRow w.heap.size (rowK s n 1).toArray) := below_setRow ((Below.refl _ _).alloc (Nat.le_refl _) _) (Nat.le_refl _) _
  have mixed : Try.prog.follows .mixedOrders = true := by kernel_rfl
  go_enter Try.func27, Try.ntmps27
  go_wp2_with (go_at_call 41; refine hM.mono ?_)
  generalize (w.alloc (.cells (rowK s n 0).toArray 9)).setRow w.heap.size (rowK s n 1).toArray = W1 at *
  clear hcp1 hmk hM
  go_loopw [8] (fun v wr => ∃ k : Nat, 1 ≤ k ∧ k ≤ n ∧ v = .int .i64 k ∧ Below w.heap.size w wr ∧ wr.heap[w.heap.size]? = some (.cells (rowK s n k).toArray 9 (0, 0))) (fun v _ => n - (intOf v).toNat)
  case atStart => exact ⟨1, Nat.le_refl _, h1, rfl, w2, w1⟩
  case round =>
    obtain ⟨k, k1, k2, rfl, k3, k4⟩ := hrel
    by_cases hkn : k < n
    · have hcp : ∀ ty, (Builtin.copy_ #[22, 22] ty #[.slice (some ⟨w.heap.size, k, none⟩) (n - k) (n - k), .slice (some ⟨w.heap.size, 0, none⟩) k n]).run Try.prog wr.drew = .ok (.int .i64 (min k (n - k) : Nat)) (wr.drew.setRow w.heap.size (rowK s n (k + min k (n - k))).toArray) := fun ty => by
        have k4' : wr.drew.heap[w.heap.size]? = some (.cells (rowK s n k).toArray 9 (0, 0)) := k4
        have h := run_copy_row (P := Try.prog) wr.drew 22 22 ty 9 w.heap.size k (n - k) (n - k) ⟨w.heap.size, 0, none⟩ k n (rowK s n k).toArray 9 (List.replicate (min k (n - k)) (.string s)) Try.underlying22 (by kernel_rfl) k4'
          (by simp [Nat.min_def]) (fun j v hj => by
            have hj1 := (List.getElem?_eq_some_iff.1 hj).1
            simp only [List.length_replicate] at hj1
            simp only [List.getElem?_replicate, hj1, if_true, Option.some.injEq] at hj
            subst hj
            have e : (⟨w.heap.size, 0, none⟩ : Addr).add j = ⟨w.heap.size, j, none⟩ := by unfold Addr.add; split <;> simp_all
            rw [e, Lib.cell_of_heap k4']
            simpa using rowK_get s n k j (by omega)) (by simp [hr k (by omega)]; omega) (fun v hv => by rw [List.eq_of_mem_replicate hv]; rfl)
        rw [h]
        have := rowK_step s n k (min k (n - k)) (by omega)
        simp only [List.length_replicate]
        rw [this]; rfl
      go_wp2
      go_region_o
      all_goals (go_wp2; go_roundw)
      case rel =>
        refine ⟨k + min k (n - k), by omega, by omega, by rw [Int.natCast_add], below_setRow k3.drew (Nat.le_refl _) _, setRow_heap _ _ _ _ _ _ k4⟩
      case measure => simp [intOf]; omega
    · obtain rfl : k = n := by omega
      go_wp2
      go_ret
      exact ⟨rfl, k3, k4⟩
theorem rows_rep (im : Nat → Prop) (w : World) (b : Nat) (arr : Array Value) (T : TypeId) (fr : Nat × Nat) (s : Bs) (hb : w.heap[b]? = some (.cells arr T fr)) : ∀ (n o : Nat), (∀ j, j < n → arr[o + j]? = some (.string ⟨⟨s⟩⟩)) → RRows im w 1 b o (List.replicate n [S.str s])
  | 0, _, _ => by simp [RRows]
  | n + 1, o, h => by
    simp only [List.replicate_succ, RRows, RRow, RS]
    refine ⟨rfl, ⟨⟨_, by rw [Lib.cell_of_heap hb]; exact h 0 (by omega), rfl⟩, trivial⟩, rows_rep im w b arr T fr s hb n (o + 1) fun j hj => by have := h (j + 1) (by omega); rwa [show o + (j + 1) = o + 1 + j by omega] at this⟩
def srepG : List V → Option V
  | [.c (.s (.list 1 [[.str s]] f)), .c (.s (.int .i64 n))] => if 1 ≤ n ∧ n ≤ 300 then some (.c (.s (.list 1 (encs strE (List.replicate n.toNat s)) false))) else none
  | _ => none
theorem srepG_call {s : Bs} {f : Bool} {n : Int} {gt : Bool} {K : V → Prop} : callE srepG [.c (.s (.list 1 [[.str s]] f)), .c (.s (.int .i64 n))] gt K = ((gt = true → 1 ≤ n ∧ n ≤ 300) ∧ bindV (ifV gt (.c (.s (.list 1 (encs strE (List.replicate n.toNat s)) false)))) K) := callE_of rfl
theorem srepG_callo {s : Bs} {f : Bool} {n : Int} {m : Nat → Option Ab.Obj} {locs : List Nat} {K : V → (Nat → Option Ab.Obj) → Prop} : callO srepG (some [.c (.s (.list 1 [[.str s]] f)), .c (.s (.int .i64 n))]) m locs K = ((1 ≤ n ∧ n ≤ 300) ∧ K (.c (.s (.list 1 (encs strE (List.replicate n.toNat s)) false))) (sealW m locs (.c (.s (.list 1 (encs strE (List.replicate n.toNat s)) false))))) := callO_of rfl
attribute [go_sem] srepG_call srepG_callo

theorem contract_slices_Repeat_string : Contract Try.prog 27 (plain srepG) := by
  intro im w args vs r him hargs hF
  unfold plain srepG at hF
  split at hF
  · rename_i s f n
    split at hF
    · rename_i hc
      simp only [Option.map_some, Option.some.injEq] at hF; subst hF
      obtain ⟨vs⟩ := vs
      match vs, hargs with
      | [x, y], h =>
        obtain ⟨h1, h2, _⟩ := h
        simp only [RV, RC, RS] at h1 h2
        obtain ⟨a, cap, rfl, g1, g2, g3⟩ := h1
        subst h2
        obtain ⟨b, o, rfl, hb, hrow⟩ := g3 (by simp)
        simp only [RRows, RRow, RS] at hrow
        obtain ⟨_, ⟨⟨c, hcell, rfl⟩, _⟩, _⟩ := hrow
        obtain ⟨k, rfl⟩ : ∃ k : Nat, n = k := ⟨n.toNat, by omega⟩
        refine ⟨⟨Try.f27, Try.func27, by kernel_rfl, by kernel_rfl⟩, (rep_walk ⟨⟨s⟩⟩ k b o cap w hcell (him b hb) (by omega) (by omega)).mono ?_⟩
        rintro e w' ⟨rfl, hB, hw⟩
        have hlt : w.heap.size < w'.heap.size := (Array.getElem?_eq_some_iff.1 hw).1
        refine ⟨_, rfl, hB, ?_⟩
        simp only [RRes, RV, RC, RS]
        refine ⟨some ⟨w.heap.size, 0, none⟩, k, by simp [encs], by simp [encs], by simp, fun _ => ⟨w.heap.size, 0, rfl, .inr ⟨Nat.le_refl _, hlt⟩, ?_⟩⟩
        have := rows_rep (grown im w w') w' w.heap.size _ _ _ s hw k 0 fun j hj => by
          have := rowK_get ⟨⟨s⟩⟩ k k j hj
          simpa using this
        simpa [encs, strE] using this
    · cases hF
  · cases hF
def repG : List V → Option V
  | [.c (.s (.str s)), .c (.s (.int .i64 n))] => if 0 ≤ n ∧ n ≤ 1048576 ∧ s.length ≤ 16777216 then some (.c (.s (.str (Lib.repeatL s n.toNat)))) else none
  | _ => none
theorem repG_call {s : Bs} {n : Int} {gt : Bool} {K : V → Prop} : callE repG [.c (.s (.str s)), .c (.s (.int .i64 n))] gt K = ((gt = true → 0 ≤ n ∧ n ≤ 1048576 ∧ s.length ≤ 16777216) ∧ bindV (ifV gt (.c (.s (.str (Lib.repeatL s n.toNat))))) K) := callE_of rfl
theorem repG_callo {s : Bs} {n : Int} {m : Nat → Option Ab.Obj} {locs : List Nat} {K : V → (Nat → Option Ab.Obj) → Prop} : callO repG (some [.c (.s (.str s)), .c (.s (.int .i64 n))]) m locs K = ((0 ≤ n ∧ n ≤ 1048576 ∧ s.length ≤ 16777216) ∧ K (.c (.s (.str (Lib.repeatL s n.toNat)))) (sealW m locs (.c (.s (.str (Lib.repeatL s n.toNat)))))) := callO_of rfl
attribute [go_sem] repG_call repG_callo

theorem contract_strings_Repeat : Contract Try.prog 28 (plain repG) := by
  intro im w args vs r him hargs hF
  unfold plain repG at hF
  split at hF
  · rename_i s n
    split at hF
    · rename_i hc
      simp only [Option.map_some, Option.some.injEq] at hF; subst hF
      obtain ⟨vs⟩ := vs
      match vs, hargs with
      | [x, y], h =>
        obtain ⟨h1, h2, _⟩ := h
        simp only [RV, RC, RS] at h1 h2
        subst h1 h2
        obtain ⟨k, rfl⟩ : ∃ k : Nat, n = k := ⟨n.toNat, by omega⟩
        refine ⟨⟨Try.f28, Try.func28, by kernel_rfl, by kernel_rfl⟩, (Try.strings_Repeat ⟨⟨s⟩⟩ k w (by omega) ?_).mono ?_⟩
        · have h1 : s.length * k ≤ 16777216 * 1048576 := Nat.mul_le_mul hc.2.2 (by omega)
          show s.length * k ≤ _
          omega
        rintro e w' ⟨rfl, hB⟩
        exact ⟨_, rfl, hB, by simp [RRes, RV, RC, RS]⟩
    · cases hF
  · cases hF
theorem rep_one (c : UInt8) : ∀ n, Lib.repeatL [c] n = List.replicate n c := fun n => by
  have := Lib.repeatL_replicate c 1 n
  simpa using this
end Go.Proofs.Ytcnemnehjpaggaa
