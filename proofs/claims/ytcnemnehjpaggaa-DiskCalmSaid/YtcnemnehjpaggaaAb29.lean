/- What a law is handed: plain data out of the reading of its arguments. -/
import Derived.Test.YtcnemnehjpaggaaAb28
import Derived.ProofKit
set_option linter.all false
namespace Go.Ab
open Go Go.RowKit

/-- The shape of a type of plain data. -/
inductive Sh where
  | bool
  | int (k : IntKind)
  | str
  | list (k : Nat) (e : Sh)
  | struct (l : List Sh)

def fieldsSh (f : TypeId → Option Sh) (P : Program) (n : Nat) : List Field → Nat → Option (List Sh)
  | [], off => if off = n then some [] else none
  | x :: r, off => if x.offset = off then (match f x.type, fieldsSh f P n r (off + P.cellsOf x.type) with
    | some s, some l => some (s :: l)
    | _, _ => none) else none
def shapeOf (P : Program) : Nat → TypeId → Option Sh
  | 0, _ => none
  | d + 1, t => match P.underlying t with
    | some .bool => some .bool
    | some (.int k) => some (.int k)
    | some .string => some .str
    | some (.slice e) => match shapeOf P d e with
      | some s => if 0 < P.cellsOf e then some (.list (P.cellsOf e) s) else none
      | none => none
    | some (.struct fs) => match fieldsSh (shapeOf P d) P (P.cellsOf t) fs.toList 0 with
      | some l => some (.struct l)
      | none => none
    | _ => none

mutual
/-- The cells are of the shape. -/
def EncR : Sh → List S → Prop
  | .bool, row => ∃ b, row = [.bool b]
  | .int k, row => ∃ n, row = [.int k n] ∧ k.min ≤ n ∧ n ≤ k.max
  | .str, row => ∃ s, row = [.str s] ∧ s.length ≤ maxLen
  | .list k e, row => ∃ rows f, row = [.list k rows f] ∧ rows.length ≤ maxLen ∧ ∀ r ∈ rows, EncR e r
  | .struct l, row => EncL l row
def EncL : List Sh → List S → Prop
  | [], row => row = []
  | s :: l, row => ∃ a b, row = a ++ b ∧ EncR s a ∧ EncL l b
end

mutual
/-- How many values and letters. -/
def bulkS : S → Nat
  | .str s => s.length + 1
  | .list _ rows _ => bulkRs rows + 1
  | _ => 1
def bulkR : List S → Nat
  | [] => 0
  | x :: r => bulkS x + bulkR r
def bulkRs : List (List S) → Nat
  | [] => 0
  | x :: r => bulkR x + bulkRs r
end
/-- What a count of a reading's values and letters must meet. -/
structure BulkLaws {H : Type} (B : DataW H → Nat) (BA : List (DataW H) → Nat) : Prop where
  one : ∀ d, 1 ≤ B d
  str : ∀ s, B (.lit (.string s)) = s.length + 1
  slice : ∀ a b, BA a + 1 ≤ B (.slice a b)
  agg : ∀ a, BA a ≤ B (.agg a)
  nil : BA [] = 0
  cons : ∀ x r, BA (x :: r) = B x + BA r

theorem bulkR_append (a b : List S) : bulkR (a ++ b) = bulkR a + bulkR b := by
  induction a with
  | nil => simp [bulkR]
  | cons x a ih => simp only [List.cons_append, bulkR, ih]; omega

section
variable {im : Nat → Prop} {w : World} {P : Program}
theorem valsAppend : ∀ {a b : List S} {u v : List Value}, RVals im w a u → RVals im w b v → RVals im w (a ++ b) (u ++ v)
  | [], _, [], _, _, h => h
  | x :: a, b, y :: u, v, h, k => by
    simp only [RVals] at h
    simp only [List.cons_append, RVals]
    exact ⟨h.1, valsAppend h.2 k⟩
  | [], _, _ :: _, _, h, _ => by simp [RVals] at h
  | _ :: _, _, [], _, h, _ => by simp [RVals] at h
theorem valsLength : ∀ {a : List S} {u : List Value}, RVals im w a u → a.length = u.length
  | [], [], _ => rfl
  | _ :: _, _ :: _, h => by simp only [RVals] at h; simp [valsLength h.2]
  | [], _ :: _, h => by simp [RVals] at h
  | _ :: _, [], h => by simp [RVals] at h
theorem RRow.of_vals {b : Nat} : ∀ {row : List S} {cs : List Value} {o : Nat}, RVals im w row cs → (∀ i, i < cs.length → w.cell? ⟨b, o + i, none⟩ = cs[i]?) → RRow im w b o row
  | [], [], _, _, _ => by simp only [RRow]
  | x :: row, y :: cs, o, h, hc => by
    simp only [RVals] at h
    simp only [RRow]
    refine ⟨⟨y, by simpa using hc 0 (by simp), h.1⟩, RRow.of_vals h.2 fun i hi => ?_⟩
    have := hc (i + 1) (by simpa using hi)
    rw [show o + 1 + i = o + (i + 1) by omega]
    simpa using this
  | [], _ :: _, _, h, _ => by simp [RVals] at h
  | _ :: _, [], _, h, _ => by simp [RVals] at h
theorem RRows.of_rows {k b : Nat} : ∀ {rows : List (List S)} {o : Nat}, (∀ i (h : i < rows.length), (rows[i]).length = k ∧ RRow im w b (o + i * k) rows[i]) → RRows im w k b o rows
  | [], _, _ => by simp only [RRows]
  | r :: rows, o, h => by
    simp only [RRows]
    have h0 := h 0 (by simp)
    simp only [List.getElem_cons_zero, Nat.zero_mul, Nat.add_zero] at h0
    refine ⟨h0.1, h0.2, RRows.of_rows fun i hi => ?_⟩
    have := h (i + 1) (by simpa using hi)
    simp only [List.getElem_cons_succ] at this
    rw [show o + k + i * k = o + (i + 1) * k by rw [Nat.succ_mul]; omega]
    exact this
theorem rows_of {Q : Nat → List S → Prop} : ∀ n, (∀ i, i < n → ∃ r, Q i r) → ∃ rows : List (List S), rows.length = n ∧ ∀ i (h : i < rows.length), Q i rows[i]
  | 0, _ => ⟨[], rfl, fun i h => by simp at h⟩
  | n + 1, h => by
    obtain ⟨rows, h1, h2⟩ := rows_of n fun i hi => h i (by omega)
    obtain ⟨r, hr⟩ := h n (by omega)
    refine ⟨rows ++ [r], by simp [h1], fun i hi => ?_⟩
    by_cases e : i < rows.length
    · rw [List.getElem_append_left e]; exact h2 i e
    · have : i = n := by simp at hi; omega
      subst this
      rw [List.getElem_append_right (by omega)]
      simpa [h1] using hr
theorem bulkRs_le {H : Type} {B : DataW H → Nat} {BA : List (DataW H) → Nat} (hB : BulkLaws B BA) : ∀ {rows : List (List S)} {ds : List (DataW H)}, rows.length = ds.length → (∀ i (h : i < rows.length) (h' : i < ds.length), bulkR rows[i] ≤ B ds[i]) → bulkRs rows ≤ BA ds
  | [], [], _, _ => by simp [bulkRs, hB.nil]
  | r :: rows, d :: ds, hl, h => by
    simp only [bulkRs, hB.cons]
    have h0 := h 0 (by simp) (by simp)
    simp only [List.getElem_cons_zero] at h0
    have := bulkRs_le hB (rows := rows) (ds := ds) (by simpa using hl) fun i hi hi' => by
      have := h (i + 1) (by simpa using hi) (by simpa using hi')
      simpa using this
    omega
  | [], _ :: _, hl, _ => by simp at hl
  | _ :: _, [], hl, _ => by simp at hl

theorem wf_bounds {k : IntKind} {n : Int} (h : (Lit.int k n).wf = true) : k.min ≤ n ∧ n ≤ k.max := by
  simp [Lit.wf] at h
  omega

variable {H : Type} {enc : TypeId × Value → H}
theorem open_sh : ∀ (d : Nat) (t : TypeId) (sh : Sh), shapeOf P d t = some sh → ∀ (fuel : Nat) (cs : List Value) (x : DataW H × List MemPlace),
    DataW.trod enc P w 0 (fun _ => true) true fuel t cs = some x →
    ∃ row, EncR sh row ∧ RVals (fun b => b < w.heap.size) w row cs ∧ ∀ B BA, BulkLaws B BA → bulkR row ≤ B x.1
  | 0, _, _, h, _, _, _, _ => by simp [shapeOf] at h
  | d + 1, t, sh, h, fuel, cs, x, hx => by
    unfold shapeOf at h
    split at h
    · rename_i ht
      simp only [Option.some.injEq] at h; subst h
      obtain ⟨b, rfl, rfl⟩ := DataW.trod_bool ht hx
      exact ⟨[.bool b], by simp [EncR], by simp [RVals, RS], fun B BA hB => by simpa [bulkR, bulkS] using hB.one _⟩
    · rename_i k ht
      simp only [Option.some.injEq] at h; subst h
      obtain ⟨n, rfl, rfl, hw⟩ := DataW.trod_int ht hx
      exact ⟨[.int k n], by simp only [EncR]; exact ⟨n, rfl, wf_bounds hw⟩, by simp [RVals, RS], fun B BA hB => by simpa [bulkR, bulkS] using hB.one _⟩
    · rename_i ht
      simp only [Option.some.injEq] at h; subst h
      obtain ⟨s, rfl, rfl, hs⟩ := DataW.trod_string ht hx
      refine ⟨[.str s.data.toList], by simp only [EncR]; exact ⟨_, rfl, by exact hs⟩, by simp [RVals, RS], fun B BA hB => ?_⟩
      simp only [bulkR, bulkS, hB.str]; omega
    · rename_i e ht
      split at h
      · rename_i se hse
        split at h
        · rename_i hk
          simp only [Option.some.injEq] at h; subst h
          rcases DataW.trod_slice ht hx with ⟨rfl, rfl⟩ | ⟨a, len, cap, elems, rest, n, _, rfl, rfl, _, hlc, hcm, hel, hat, _, _⟩
          · refine ⟨[.list (P.cellsOf e) [] true], by simp only [EncR]; exact ⟨[], true, rfl, by simp, by simp⟩, ?_, fun B BA hB => by simpa [bulkR, bulkS, bulkRs] using hB.one _⟩
            simp only [RVals, RS, and_true]
            exact ⟨none, 0, rfl, by simp, by simp, by simp⟩
          · have hrow : ∀ i, i < len → ∃ r : List S, EncR se r ∧ (∃ cs', w.cells? 0 (a.add (i * P.cellsOf e)) (P.cellsOf e) = some cs' ∧ RVals (fun b => b < w.heap.size) w r cs') ∧
                ∃ y, elems[i]? = some y ∧ ∀ (B : DataW H → Nat) BA, BulkLaws B BA → bulkR r ≤ B y.1 := fun i hi => by
              have h1 := hat i hi
              have hy : i < elems.length := by omega
              rw [List.getElem?_eq_getElem hy] at h1
              obtain ⟨cs', h2, h3⟩ := Option.bind_eq_some_iff.1 h1
              obtain ⟨r, h4, h5, h6⟩ := open_sh d e se hse n cs' _ h3
              exact ⟨r, h4, ⟨cs', h2, h5⟩, _, List.getElem?_eq_getElem hy, h6⟩
            obtain ⟨rows, hl, hr⟩ := rows_of len hrow
            refine ⟨[.list (P.cellsOf e) rows (decide (cap = len))], ?_, ?_, fun B BA hB => ?_⟩
            · simp only [EncR]
              refine ⟨rows, _, rfl, by omega, fun r hm => ?_⟩
              obtain ⟨i, hi, rfl⟩ := List.mem_iff_getElem.1 hm
              exact (hr i hi).1
            · simp only [RVals, RS, and_true]
              refine ⟨some a, cap, by rw [hl], by omega, by simp [hl], fun hne => ?_⟩
              have hl0 : 0 < rows.length := List.length_pos_iff.2 hne
              have hspot : a.spot = none ∧ a.block < w.heap.size := by
                obtain ⟨_, ⟨cs', h2, _⟩, _⟩ := hr 0 hl0
                have h3 := (World.cells?_some h2).2
                have h4 := h3.2 0 hk
                have : cs'[0]? = some cs'[0] := List.getElem?_eq_getElem (by omega)
                rw [this] at h4
                have ea : (a.add (0 * P.cellsOf e)).add 0 = a := by simp [Addr.add]
                rw [ea] at h4
                unfold World.cell? at h4
                cases hb : w.heap[a.block]? with
                | none => rw [hb] at h4; cases h4
                | some o =>
                  have hblk := (Array.getElem?_eq_some_iff.1 hb).1
                  refine ⟨?_, hblk⟩
                  rw [hb] at h4
                  cases hsp : a.spot with
                  | none => rfl
                  | some z =>
                    rw [hsp] at h4
                    cases o with
                    | cells c1 c2 c3 => simp at h4
                    | _ => simp at h4
              obtain ⟨ab, ao, asp⟩ := a
              simp only at hspot
              obtain ⟨rfl, hblk⟩ := hspot
              refine ⟨ab, ao, rfl, hblk, RRows.of_rows fun i hi => ?_⟩
              obtain ⟨_, ⟨cs', h2, h5⟩, _⟩ := hr i hi
              have h3 := (World.cells?_some h2).2
              refine ⟨by rw [valsLength h5, h3.1], RRow.of_vals h5 fun j hj => ?_⟩
              have h4 := h3.2 j (by omega)
              have e1 : ((⟨ab, ao, none⟩ : Addr).add (i * P.cellsOf e)).add j = ⟨ab, ao + i * P.cellsOf e + j, none⟩ := by
                unfold Addr.add
                by_cases q1 : i * P.cellsOf e = 0 <;> by_cases q2 : j = 0 <;> simp [q1, q2]
              rw [e1] at h4
              exact h4
            · simp only [bulkR, bulkS, Nat.add_zero]
              have h1 := hB.slice (elems.map (·.1)) (rest.map (·.1))
              have h2 := bulkRs_le hB (rows := rows) (ds := elems.map (·.1)) (by simp; omega) fun i hi hi' => by
                obtain ⟨_, _, y, hy, hb⟩ := hr i hi
                have hi2 : i < elems.length := by simpa using hi'
                rw [List.getElem?_eq_getElem hi2] at hy
                have : (elems.map (·.1))[i] = y.1 := by simp [Option.some.inj hy]
                rw [this]
                exact hb B BA hB
              omega
        · cases h
      · cases h
    · rename_i fs ht
      split at h
      · rename_i l hl
        simp only [Option.some.injEq] at h; subst h
        obtain ⟨xs, n, _, rfl, hlen, hxl, hat⟩ := DataW.trod_struct ht hx
        have key : ∀ (fl : List Field) (off : Nat) (ys : List (DataW H × List MemPlace)) (l : List Sh), fieldsSh (shapeOf P d) P (P.cellsOf t) fl off = some l → ys.length = fl.length →
            (∀ (i : Nat) (f : Field), fl[i]? = some f → DataW.trod enc P w 0 (fun _ => true) true n f.type ((cs.drop f.offset).take (P.cellsOf f.type)) = ys[i]?) → off ≤ cs.length →
            ∃ row, EncL l row ∧ RVals (fun b => b < w.heap.size) w row (cs.drop off) ∧ ∀ (B : DataW H → Nat) BA, BulkLaws B BA → bulkR row ≤ BA (ys.map (·.1)) := by
          intro fl
          induction fl with
          | nil =>
            intro off ys l h1 h2 _ _
            simp only [fieldsSh] at h1
            split at h1
            · rename_i he
              simp only [Option.some.injEq] at h1; subst h1
              refine ⟨[], by simp [EncL], ?_, fun B BA hB => by simp [bulkR]⟩
              rw [List.drop_eq_nil_of_le (by omega)]
              simp [RVals]
            · cases h1
          | cons f fl ih =>
            intro off ys l h1 h2 h3 h4
            simp only [fieldsSh] at h1
            split at h1
            · rename_i ho
              split at h1
              · rename_i s l' hs hl'
                simp only [Option.some.injEq] at h1; subst h1
                match ys, h2 with
                | y :: ys, h2 =>
                  have hf := h3 0 f rfl
                  simp only [List.getElem?_cons_zero] at hf
                  obtain ⟨r, g1, g2, g3⟩ := open_sh d f.type s hs n _ y hf
                  have hrl := valsLength g2
                  have hbig : off + P.cellsOf f.type ≤ cs.length := by
                    have : ∀ (fl : List Field) (off : Nat) (l : List Sh), fieldsSh (shapeOf P d) P (P.cellsOf t) fl off = some l → off ≤ P.cellsOf t := by
                      intro fl
                      induction fl with
                      | nil =>
                        intro off l q
                        simp only [fieldsSh] at q
                        split at q
                        · omega
                        · cases q
                      | cons f fl ih =>
                        intro off l q
                        simp only [fieldsSh] at q
                        split at q
                        · split at q
                          · rename_i _ _ _ q2
                            have := ih _ _ q2
                            omega
                          · cases q
                        · cases q
                    have := this _ _ _ hl'
                    omega
                  obtain ⟨row, k1, k2, k3⟩ := ih (off + P.cellsOf f.type) ys l' hl' (by simpa using h2) (fun i f' hf' => by
                    have := h3 (i + 1) f' (by simpa using hf')
                    simpa using this) hbig
                  refine ⟨r ++ row, by simp only [EncL]; exact ⟨r, row, rfl, g1, k1⟩, ?_, fun B BA hB => ?_⟩
                  · have e : cs.drop off = (cs.drop off).take (P.cellsOf f.type) ++ cs.drop (off + P.cellsOf f.type) := by
                      rw [← List.drop_drop, List.take_append_drop]
                    rw [e, ← ho]
                    rw [← ho] at k2
                    exact valsAppend g2 k2
                  · rw [bulkR_append, List.map_cons, hB.cons]
                    have := g3 B BA hB
                    have := k3 B BA hB
                    omega
              · cases h1
            · cases h1
        obtain ⟨row, k1, k2, k3⟩ := key fs.toList 0 xs l hl (by simpa using hxl) (fun i f hf => hat i f (by simpa using hf)) (Nat.zero_le _)
        exact ⟨row, by simp only [EncR]; exact k1, by simpa using k2, fun B BA hB => Nat.le_trans (k3 B BA hB) (hB.agg _)⟩
      · cases h
    · cases h
end
end Go.Ab
