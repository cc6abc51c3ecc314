/- Bytes appended to a builder's row, in the heap. -/
import Derived.Test.YtcnemnehjpaggaaAb19
set_option linter.all false
namespace Go.Ab
open Go Go.RowKit

def u8s (s : List UInt8) : List Value := s.map fun c => .int .u8 (c.toNat : Int)

/-- A builder's row: none; or a block of its own. -/
def RowSt (w : World) (T2 : TypeId) (base : Option Addr) (cap : Nat) (s : List UInt8) (g : Option Nat) : Prop :=
  (s = [] ∧ g = none ∧ base = none ∧ cap = 0) ∨
  (∃ b2 arr fr, g = some b2 ∧ base = some ⟨b2, 0, none⟩ ∧ w.heap[b2]? = some (.cells arr T2 fr) ∧ arr.size = cap ∧ s.length ≤ cap ∧ 0 < cap ∧ fr.2 ≤ s.length ∧
    ∀ i (h : i < s.length), arr[i]? = some (.int .u8 (s[i].toNat : Int)))

structure RTurn (w w' : World) (T2 : TypeId) (base : Option Addr) (cap : Nat) (s' : List UInt8) (g g' : Option Nat) : Prop where
  st : RowSt w' T2 base cap s' g'
  kept : ∀ k, k < w.heap.size → g ≠ some k → w'.heap[k]? = w.heap[k]?
  size : w.heap.size ≤ w'.heap.size
  row : ∀ k, g' = some k → g = some k ∨ w.heap.size ≤ k
  os : w'.os = w.os
  tape : w'.tape = w.tape
  output : w'.output = w.output

section
variable {P : Program} {w : World}

theorem u8s_length (s : List UInt8) : (u8s s).length = s.length := by simp [u8s]
theorem u8s_get {s : List UInt8} {i : Nat} (h : i < s.length) : (u8s s)[i]? = some (.int .u8 (s[i].toNat : Int)) := by simp [u8s, h]

theorem row_take {arr : Array Value} {s : List UInt8} (h : ∀ i (h : i < s.length), arr[i]? = some (.int .u8 (s[i].toNat : Int))) : arr.toList.take s.length = u8s s := by
  apply List.ext_getElem?
  intro i
  rw [List.getElem?_take]
  split
  · rename_i hi
    rw [u8s_get hi, ← h i hi]
    simp
  · rename_i hi
    rw [List.getElem?_eq_none]
    rw [u8s_length]; omega

theorem bld_append {t u e ty : TypeId} {base : Option Addr} {cap : Nat} {s tb : List UInt8} {g : Option Nat} {y : Value} (ht : P.underlying t = some (.slice e)) (hu : P.underlying u = some .string ∨ ∃ e', P.underlying u = some (.slice e'))
    (hk : sizeT P e = some 1) (hby : bytesT P e = some 1) (hz : ∃ i, P.info? e = some i ∧ i.zero = some (.int .u8 0)) (hR : RowSt w e base cap s g) (hlen : (Builtin.lenOf y).run P w = .ok tb.length w)
    (hnew : ∀ w2 : World, w2.heap = w.heap → (Builtin.firstCells 1 tb.length y).run P w2 = .ok (u8s tb).toArray w2) (hb : s.length + tb.length ≤ 140737488355328) :
    ∃ base' cap' w' g', (Builtin.append_ #[t, u] ty #[.slice base s.length cap, y]).run P w = .ok (.slice base' (s.length + tb.length) cap') w' ∧ RTurn w w' e base' cap' (s ++ tb) g g' := by
  have ub : (u8s tb).length = tb.length := u8s_length tb
  by_cases hfit : s.length + tb.length ≤ cap
  · rcases hR with ⟨rfl, rfl, rfl, rfl⟩ | ⟨b2, arr, fr, rfl, rfl, h1, h2, h3, h4, h5, h6⟩
    · have htb : tb = [] := by
        have : tb.length = 0 := by simpa using hfit
        exact List.length_eq_zero_iff.1 this
      subst htb
      exact ⟨none, 0, w, none, run_append_fit ht hk hu hlen (hnew w rfl) hfit (w' := w) rfl, ⟨.inl ⟨rfl, rfl, rfl, rfl⟩, fun _ _ _ => rfl, Nat.le_refl _, fun k hk => (by cases hk), rfl, rfl, rfl⟩⟩
    · have hst := run_storeCells_atF P b2 s.length e fr (u8s tb) 0 arr w h1 (by omega) (by rw [ub]; omega) (fun v hv => by
        simp only [u8s, List.mem_map] at hv
        obtain ⟨c, _, rfl⟩ := hv
        rfl)
      simp only [Nat.add_zero] at hst
      have hadd : (⟨b2, 0, none⟩ : Addr).add (s.length * 1) = ⟨b2, s.length, none⟩ := by unfold Addr.add; split <;> simp_all
      refine ⟨some ⟨b2, 0, none⟩, cap, _, some b2, run_append_fit ht hk hu hlen (hnew w rfl) hfit (w' := w.setRow b2 (arr.toList.take s.length ++ u8s tb ++ arr.toList.drop (s.length + (u8s tb).length)).toArray) (by show (storeCells ((⟨b2, 0, none⟩ : Addr).add (s.length * 1)) (u8s tb)).run P w = _; rw [hadd]; exact hst), ⟨?_, ?_, ?_, ?_, ?_, ?_, ?_⟩⟩
      · refine .inr ⟨b2, _, fr, rfl, rfl, setRow_heap w b2 arr _ e fr h1, ?_, by simp; omega, h4, by simp; omega, ?_⟩
        · simp [ub]; omega
        · intro i hi
          rw [row_take h6]
          simp only [List.length_append] at hi
          rw [List.getElem?_toArray, List.getElem?_append_left (by simp [u8s_length]; omega)]
          rw [show u8s s ++ u8s tb = u8s (s ++ tb) by simp [u8s]]
          exact u8s_get (by simpa using hi)
      · exact fun k hk hne => setRow_other w b2 k _ (fun e => hne (by rw [e]))
      · simp
      · exact fun k hk => .inl hk
      · rfl
      · rfl
      · rfl
  · have hold : (Builtin.firstCells 1 s.length (.slice base s.length cap)).run P w.drew = .ok (u8s s).toArray w.drew := by
      refine firstCells_slice (by rw [u8s_length]; omega) (fun hne => ?_)
      rcases hR with ⟨rfl, _⟩ | ⟨b2, arr, fr, _, rfl, h1, h2, h3, h4, h5, h6⟩
      · exact absurd rfl hne
      · refine ⟨b2, 0, rfl, fun j u hj => ?_⟩
        have hjl : j < s.length := by
          have := (List.getElem?_eq_some_iff.1 hj).1
          rwa [u8s_length] at this
        have hb' : w.drew.heap[b2]? = some (.cells arr e fr) := h1
        rw [u8s_get hjl, ← h6 j hjl] at hj
        rw [Lib.cell_of_heap hb', Nat.zero_add]; exact hj
    obtain ⟨newCap, hn, hrun⟩ := run_append_grow (P := P) (w := w) (ty := ty) (sl := s.length) (n := tb.length) (y := y) (base := base) (cap := cap) (old := u8s s) (new := u8s tb) ht hk hby (by omega) hu hz hlen hold (hnew w.drew rfl) (by omega) (by omega)
    have hsz : (Builtin.zeroCells (Value.int .u8 0).cells (newCap - (s.length + tb.length))).size = newCap - (s.length + tb.length) := by rw [zeroCells_size]; simp [Value.cells]
    refine ⟨_, newCap, _, some w.heap.size, hrun, ⟨.inr ⟨w.heap.size, _, (0, 0), rfl, rfl, heap_alloc_new w.drew _, ?_, by simpa using hn, by omega, by simp, ?_⟩, ?_, ?_, fun k hk => .inr (by simp only [Option.some.injEq] at hk; omega), rfl, rfl, rfl⟩⟩
    · simp [hsz, u8s_length]; omega
    · intro i hi
      simp only [List.length_append] at hi
      have : ((u8s s).toArray ++ (u8s tb).toArray)[i]? = some (.int .u8 ((s ++ tb)[i].toNat : Int)) := by
        rw [show (u8s s).toArray ++ (u8s tb).toArray = (u8s (s ++ tb)).toArray by simp [u8s]]
        rw [List.getElem?_toArray]
        exact u8s_get (by simpa using hi)
      rw [Array.getElem?_append_left (by simp [u8s_length]; omega)]
      exact this
    · intro k hk _
      exact ((Below.refl w.heap.size w).drew.alloc (Nat.le_refl _) _).block k hk
    · exact ((Below.refl w.heap.size w).drew.alloc (Nat.le_refl _) _).size

/-- An operation that runs to a value. -/
theorem wpList_run {ops : Array Oper} {rest : List Oper} {o : Oper} {a : Act} {Q : Exit → Act → World → Prop} (hgd : o.guard = none) {u : Value} {w' : World} (hr : (execOp a.eval o).run P w = .ok (.value u) w')
    (h : wpList P ops Q rest (a.put o.dst u) w') : wpList P ops Q (o :: rest) a w := by
  refine wpList_plain hgd fun K hK => ?_
  unfold Oper.wp
  rw [hr]
  exact hK _ _ h

/-- A builder that has been used. -/
structure UBld (w : World) (b : Nat) (T : TypeId × TypeId) (base : Option Addr) (cap : Nat) (s : List UInt8) (g : Option Nat) : Prop where
  blk : w.heap[b]? = some (.cells #[.pointer (some ⟨b, 0, none⟩), .slice base s.length cap] T.1 (0, 0))
  row : RowSt w T.2 base cap s g
  ne : g ≠ some b

theorem UBld.bst {b : Nat} {T : TypeId × TypeId} {base : Option Addr} {cap : Nat} {s : List UInt8} {g : Option Nat} (h : UBld w b T base cap s g) : BSt w b T s g := by
  obtain ⟨h1, h2, h3⟩ := h
  rcases h2 with ⟨rfl, rfl, rfl, rfl⟩ | ⟨b2, arr, fr, rfl, rfl, g1, g2, g3, g4, g5, g6⟩
  · exact .inl ⟨rfl, rfl, _, .inr rfl, h1⟩
  · exact .inr ⟨b2, arr, cap, fr, rfl, fun e => h3 (by rw [e]), h1, g1, g2, g3, g4, g5, g6⟩

theorem bst_cases {b : Nat} {T : TypeId × TypeId} {s : List UInt8} {g : Option Nat} (h : BSt w b T s g) :
    (s = [] ∧ g = none ∧ w.heap[b]? = some (.cells #[.pointer none, .slice none 0 0] T.1 (0, 0))) ∨ ∃ base cap, UBld w b T base cap s g := by
  rcases h with ⟨rfl, rfl, p, hp, hb⟩ | ⟨b2, arr, cap, fr, rfl, hne, hb, h2, g1, g2, g3, g4, g5⟩
  · rcases hp with rfl | rfl
    · exact .inl ⟨rfl, rfl, hb⟩
    · exact .inr ⟨none, 0, ⟨hb, .inl ⟨rfl, rfl, rfl, rfl⟩, by simp⟩⟩
  · exact .inr ⟨_, cap, ⟨hb, .inr ⟨b2, arr, fr, rfl, rfl, h2, g1, g2, g3, g4, g5⟩, fun e => hne (by simpa using e)⟩⟩

/-- What copyCheck turns: the builder's own address, alone. -/
structure CTurn (w w' : World) (b : Nat) : Prop where
  kept : ∀ k, k ≠ b → w'.heap[k]? = w.heap[k]?
  size : w'.heap.size = w.heap.size
  os : w'.os = w.os
  tape : w'.tape = w.tape
  output : w'.output = w.output
theorem CTurn.refl (b : Nat) : CTurn w w b := ⟨fun _ _ => rfl, rfl, rfl, rfl, rfl⟩

theorem fresh_used {b : Nat} {T : TypeId × TypeId} (h : w.heap[b]? = some (.cells #[.pointer none, .slice none 0 0] T.1 (0, 0))) :
    UBld (w.setCell ⟨b, 0, none⟩ (.pointer (some ⟨b, 0, none⟩))) b T none 0 [] none ∧ CTurn w (w.setCell ⟨b, 0, none⟩ (.pointer (some ⟨b, 0, none⟩))) b := by
  refine ⟨⟨by simp [World.setCell, Array.getElem?_modify, h], .inl ⟨rfl, rfl, rfl, rfl⟩, by simp⟩, ⟨fun k hk => Below.heap_setCell _ _ _ _ (fun e => hk (by simp [e])), by simp [World.setCell], rfl, rfl, rfl⟩⟩

/-- The end of a write: the row has turned, and the builder's slice is laid down. -/
theorem bld_end {w1 w2 w' : World} {b : Nat} {T : TypeId × TypeId} {base base' : Option Addr} {cap cap' : Nat} {s s' : List UInt8} {g g' : Option Nat} (hC : CTurn w w1 b) (hU : UBld w1 b T base cap s g)
    (hk : ∀ k, k < w1.heap.size → w2.heap[k]? = w1.heap[k]?) (hs : w1.heap.size ≤ w2.heap.size) (hos : w2.os = w1.os ∧ w2.tape = w1.tape ∧ w2.output = w1.output)
    (hR : RTurn w2 w' T.2 base' cap' s' g g') :
    w'.heap[b]? = some (.cells #[.pointer (some ⟨b, 0, none⟩), .slice base s.length cap] T.1 (0, 0)) ∧ BTurn w (w'.setCell ⟨b, 1, none⟩ (.slice base' s'.length cap')) b T s' g g' := by
  have hlt : b < w1.heap.size := (Array.getElem?_eq_some_iff.1 hU.blk).1
  have hb' : w'.heap[b]? = some (.cells #[.pointer (some ⟨b, 0, none⟩), .slice base s.length cap] T.1 (0, 0)) := by
    rw [hR.kept b (by omega) hU.ne, hk b hlt, hU.blk]
  have hgne : g' ≠ some b := fun e => by
    rcases hR.row b e with q | q
    · exact hU.ne q
    · omega
  refine ⟨hb', ?_⟩
  have hoth : ∀ k, k ≠ b → (w'.setCell ⟨b, 1, none⟩ (.slice base' s'.length cap')).heap[k]? = w'.heap[k]? := fun k hk => Below.heap_setCell _ _ _ _ (fun e => hk (by simp [e]))
  refine ⟨UBld.bst (base := base') (cap := cap') ⟨by simp [World.setCell, Array.getElem?_modify, hb'], ?_, hgne⟩, fun k hk1 hk2 hk3 => ?_, ?_, fun k hk1 => ?_, ?_, ?_, ?_⟩
  · rcases hR.st with h | ⟨b2, arr, fr, rfl, rfl, g1, g2⟩
    · exact .inl h
    · exact .inr ⟨b2, arr, fr, rfl, rfl, by rw [hoth b2 (fun e => hgne (by rw [e]))]; exact g1, g2⟩
  · rw [hoth k hk2, hR.kept k (by have := hC.size; omega) hk3, hk k (by have := hC.size; omega), hC.kept k hk2]
  · have := hR.size; have := hC.size
    simp [World.setCell]; omega
  · rcases hR.row k hk1 with q | q
    · exact .inl q
    · have := hC.size; exact .inr (by omega)
  · exact hR.os.trans (hos.1.trans hC.os)
  · exact hR.tape.trans (hos.2.1.trans hC.tape)
  · exact hR.output.trans (hos.2.2.trans hC.output)

theorem freeze_turn {b b2 : Nat} {T : TypeId × TypeId} {arr : Array Value} {cap : Nat} {fr : Nat × Nat} {p : Value} {s : List UInt8} (hs : s ≠ []) (hb : w.heap[b]? = some (.cells #[p, .slice (some ⟨b2, 0, none⟩) s.length cap] T.1 (0, 0)))
    (hp : p = .pointer (some ⟨b, 0, none⟩)) (hne : b2 ≠ b) (h2 : w.heap[b2]? = some (.cells arr T.2 fr)) (g1 : arr.size = cap) (g2 : s.length ≤ cap) (g3 : 0 < cap) (g4 : fr.2 ≤ s.length) (g5 : ∀ i (h : i < s.length), arr[i]? = some (.int .u8 (s[i].toNat : Int))) :
    BTurn w (w.drew.freeze ⟨b2, 0, none⟩ s.length) b T s (some b2) (some b2) := by
  have hl : s.length ≠ 0 := by simpa using hs
  subst hp
  have hf : ∀ k, k ≠ b2 → (w.drew.freeze ⟨b2, 0, none⟩ s.length).heap[k]? = w.heap[k]? := fun k hk => by
    unfold World.freeze
    rw [if_neg hl]
    simp only [Array.getElem?_modify]
    rw [if_neg (fun e => hk e.symm)]
    rfl
  refine ⟨.inr ⟨b2, arr, cap, (if fr.1 == fr.2 then (0, 0 + s.length) else (min fr.1 0, max fr.2 (0 + s.length))), rfl, hne, by rw [hf b (fun e => hne e.symm)]; exact hb, ?_, g1, g2, g3, ?_, g5⟩, fun k _ _ hk => hf k (fun e => hk (by rw [e])), ?_, fun k hk => .inl hk, ?_, ?_, ?_⟩
  · unfold World.freeze
    rw [if_neg hl]
    have h2' : w.drew.heap[b2]? = some (.cells arr T.2 fr) := h2
    simp only [Array.getElem?_modify, if_true, h2', Option.map_some]
  · split <;> simp <;> omega
  all_goals
    unfold World.freeze
    rw [if_neg hl]
    first | rfl | simp

theorem drew_turn {b : Nat} {T : TypeId × TypeId} {s : List UInt8} {g : Option Nat} (h : BSt w b T s g) : BTurn w w.drew b T s g g :=
  ⟨h, fun _ _ _ _ => rfl, Nat.le_refl _, fun _ h => .inl h, rfl, rfl, rfl⟩
end
end Go.Ab
