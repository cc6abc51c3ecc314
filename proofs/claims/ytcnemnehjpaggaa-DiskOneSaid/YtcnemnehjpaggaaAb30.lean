/- From the contract of a law's function to what the statement asks of it. -/
import Derived.Test.YtcnemnehjpaggaaAb29
set_option linter.all false
namespace Go.Ab
open Go Go.RowKit

/-- A parameter, out of its cells. -/
def argOf : Sh → List S → V
  | .struct _, row => .agg (row.map .s)
  | _, [x] => .c (.s x)
  | _, _ => .junk
def argsOf : List Sh → List (List S) → List V
  | s :: l, r :: rs => argOf s r :: argsOf l rs
  | _, _ => []
def EncRs : List Sh → List (List S) → Prop
  | [], [] => True
  | s :: l, r :: rs => EncR s r ∧ EncRs l rs
  | _, _ => False
def shapesOf (P : Program) : List TypeId → Option (List Sh)
  | [] => some []
  | t :: ts => match shapeOf P 20 t, shapesOf P ts with
    | some s, some l => some (s :: l)
    | _, _ => none

theorem enc_rows {α : Type} (f : α → List S) : ∀ {rows : List (List S)}, (∀ r ∈ rows, ∃ x, r = f x) → ∃ l : List α, rows = encs f l
  | [], _ => ⟨[], rfl⟩
  | r :: rows, h => by
    obtain ⟨x, rfl⟩ := h r (by simp)
    obtain ⟨l, rfl⟩ := enc_rows f fun q hq => h q (List.mem_cons_of_mem _ hq)
    exact ⟨x :: l, rfl⟩
theorem bulk_list {α : Type} {f : α → List S} (hf : ∀ x, 1 ≤ bulkR (f x)) (l : List α) : l.length ≤ bulkRs (encs f l) := by
  induction l with
  | nil => simp
  | cons x l ih => have := hf x; simp only [encs, List.map_cons, bulkRs, List.length_cons] at *; omega
theorem bulkR_nil : bulkR [] = 0 := nr rfl
theorem bulkR_cons {x : S} {r : List S} : bulkR (x :: r) = bulkS x + bulkR r := nr rfl
theorem bulkS_list {k : Nat} {rows : List (List S)} {f : Bool} : bulkS (.list k rows f) = bulkRs rows + 1 := nr rfl
theorem bulkS_str {s : List UInt8} : bulkS (.str s) = s.length + 1 := nr rfl
theorem bulkS_int {k : IntKind} {n : Int} : bulkS (.int k n) = 1 := nr rfl
theorem bulkS_bool {b : Bool} : bulkS (.bool b) = 1 := nr rfl
theorem bulkRs_nil : bulkRs [] = 0 := nr rfl
theorem bulkRs_cons {x : List S} {r : List (List S)} : bulkRs (x :: r) = bulkR x + bulkRs r := nr rfl
theorem encRs_nil {rows : List (List S)} (h : EncRs [] rows) : rows = [] := by
  cases rows with
  | nil => rfl
  | cons _ _ => exact h.elim
theorem encRs_cons {s : Sh} {l : List Sh} {rows : List (List S)} (h : EncRs (s :: l) rows) : ∃ r q, rows = r :: q ∧ EncR s r ∧ EncRs l q := by
  cases rows with
  | nil => exact h.elim
  | cons r q => exact ⟨r, q, rfl, h.1, h.2⟩
theorem enc_bool {r : List S} (h : EncR .bool r) : ∃ b, r = [.bool b] := h
theorem enc_int {k : IntKind} {r : List S} (h : EncR (.int k) r) : ∃ n, r = [.int k n] ∧ k.min ≤ n ∧ n ≤ k.max := by simpa only [EncR] using h
theorem enc_str {r : List S} (h : EncR .str r) : ∃ s, r = [.str s] ∧ s.length ≤ maxLen := by simpa only [EncR] using h
theorem enc_list {k : Nat} {e : Sh} {r : List S} (h : EncR (.list k e) r) : ∃ rows f, r = [.list k rows f] ∧ rows.length ≤ maxLen ∧ ∀ r ∈ rows, EncR e r := by simpa only [EncR] using h
theorem enc_struct {l : List Sh} {r : List S} (h : EncR (.struct l) r) : EncL l r := by simpa only [EncR] using h
theorem encL_nil {r : List S} (h : EncL [] r) : r = [] := by simpa only [EncL] using h
theorem encL_cons {s : Sh} {l : List Sh} {r : List S} (h : EncL (s :: l) r) : ∃ a b, r = a ++ b ∧ EncR s a ∧ EncL l b := by simpa only [EncL] using h
theorem argsOf_nil : argsOf [] [] = [] := nr rfl
theorem argsOf_cons {s : Sh} {l : List Sh} {r : List S} {rs : List (List S)} : argsOf (s :: l) (r :: rs) = argOf s r :: argsOf l rs := nr rfl
theorem arg_str {x : S} : argOf .str [x] = .c (.s x) := nr rfl
theorem arg_bool {x : S} : argOf .bool [x] = .c (.s x) := nr rfl
theorem arg_int {k : IntKind} {x : S} : argOf (.int k) [x] = .c (.s x) := nr rfl
theorem arg_list {k : Nat} {e : Sh} {x : S} : argOf (.list k e) [x] = .c (.s x) := nr rfl
theorem arg_struct {l : List Sh} {r : List S} : argOf (.struct l) r = .agg (r.map .s) := nr rfl

section
variable {im : Nat → Prop} {w : World} {P : Program} {H : Type} {enc : TypeId × Value → H}
theorem RCs_of_vals : ∀ {row : List S} {cs : List Value}, RVals im w row cs → RCs im w β0 m0 (row.map .s) cs
  | [], [], _ => trivial
  | x :: row, y :: cs, h => by
    simp only [RVals] at h
    exact ⟨h.1, RCs_of_vals h.2⟩
  | [], _ :: _, h => by simp [RVals] at h
  | _ :: _, [], h => by simp [RVals] at h
theorem open_arg {d : Nat} {t : TypeId} {sh : Sh} (hs : shapeOf P d t = some sh) {r : Reach} {base : Nat} {v : Value} {x : DataW H} {ps : List MemPlace} (hval : Value.okWide P w r base t v)
    (h : DataW.Trod enc P w 0 (fun _ => true) true t v x ps) : ∃ row, EncR sh row ∧ RV (fun b => b < w.heap.size) w β0 m0 (argOf sh row) v ∧ (∀ B BA, BulkLaws B BA → bulkR row ≤ B x) ∧ RVals (fun b => b < w.heap.size) w row v.cells.toList := by
  obtain ⟨fuel, hf⟩ := h
  obtain ⟨row, h1, h2, h3⟩ := open_sh d t sh hs fuel _ _ hf
  refine ⟨row, h1, ?_, h3, h2⟩
  have hlone : ∀ (y : S), v.cells.toList = [v] → row = [y] → RV (fun b => b < w.heap.size) w β0 m0 (.c (.s y)) v := fun y hv hr => by
    rw [hv, hr] at h2
    simp only [RVals, and_true] at h2
    exact h2
  cases d with
  | zero => simp [shapeOf] at hs
  | succ d =>
    unfold shapeOf at hs
    split at hs
    · rename_i ht
      simp only [Option.some.injEq] at hs; subst hs
      simp only [EncR] at h1
      obtain ⟨b, rfl⟩ := h1
      refine hlone _ ?_ rfl
      simp only [Value.okWide, ht, Cell.okWide] at hval
      cases v <;> simp_all [Cell.ok, Value.cells]
    · rename_i k ht
      simp only [Option.some.injEq] at hs; subst hs
      simp only [EncR] at h1
      obtain ⟨n, rfl, _⟩ := h1
      refine hlone _ ?_ rfl
      simp only [Value.okWide, ht, Cell.okWide] at hval
      cases v <;> simp_all [Cell.ok, Value.cells]
    · rename_i ht
      simp only [Option.some.injEq] at hs; subst hs
      simp only [EncR] at h1
      obtain ⟨n, rfl, _⟩ := h1
      refine hlone _ ?_ rfl
      simp only [Value.okWide, ht, Cell.okWide] at hval
      cases v <;> simp_all [Cell.ok, Value.cells]
    · rename_i e ht
      split at hs
      · split at hs
        · simp only [Option.some.injEq] at hs; subst hs
          simp only [EncR] at h1
          obtain ⟨rows, f, rfl, _⟩ := h1
          refine hlone _ ?_ rfl
          simp only [Value.okWide, ht, Cell.okWide] at hval
          cases v <;> simp_all [Cell.ok, Value.cells]
        · cases hs
      · cases hs
    · rename_i fs ht
      split at hs
      · simp only [Option.some.injEq] at hs; subst hs
        simp only [Value.okWide, ht] at hval
        obtain ⟨cs, rfl, _⟩ := hval
        exact ⟨cs, rfl, RCs_of_vals (by simpa [Value.cells] using h2)⟩
      · cases hs
    · cases hs
theorem open_args : ∀ {ts : List TypeId} {shs : List Sh} {vs : List Value} {ds : List (DataW H)} {ps : List MemPlace} {r : Reach} {base : Nat}, shapesOf P ts = some shs →
    (∀ (j : Nat) t v, ts[j]? = some t → vs[j]? = some v → Value.okWide P w r base t v) → DataW.TrodAll enc P w 0 (fun _ => true) true ts vs ds ps →
    ∃ rows, EncRs shs rows ∧ RVl (fun b => b < w.heap.size) w β0 m0 (argsOf shs rows) vs ∧ ds.length = ts.length ∧ ∀ B BA, BulkLaws B BA → bulkRs rows ≤ BA ds
  | [], shs, vs, ds, ps, r, base, hs, hv, h => by
    simp only [shapesOf, Option.some.injEq] at hs; subst hs
    match vs, ds, h with
    | [], [], _ => exact ⟨[], trivial, trivial, rfl, fun B BA hB => by simp [bulkRs]⟩
    | [], _ :: _, h => exact h.elim
    | _ :: _, _, h => exact h.elim
  | t :: ts, shs, vs, ds, ps, r, base, hs, hv, h => by
    simp only [shapesOf] at hs
    split at hs
    · rename_i s l h1 h2
      simp only [Option.some.injEq] at hs; subst hs
      match vs, ds, h with
      | [], _, h => exact h.elim
      | _ :: _, [], h => exact h.elim
      | v :: vs, d :: ds, ⟨p, q, h3, h4, _⟩ =>
        obtain ⟨row, g1, g2, g3, -⟩ := open_arg h1 (hv 0 t v rfl rfl) h3
        obtain ⟨rows, k1, k2, k3, k4⟩ := open_args h2 (fun j t v a b => hv (j + 1) t v (by simpa using a) (by simpa using b)) h4
        refine ⟨row :: rows, ⟨g1, k1⟩, ⟨g2, k2⟩, by simp [k3], fun B BA hB => ?_⟩
        simp only [bulkRs, hB.cons]
        have := g3 B BA hB
        have := k4 B BA hB
        omega
    · cases hs
theorem stays_all {W W' : World} (hl : laidOutB P = true) (hb : Below W.heap.size W W') {sp : Nat → Bool} : ∀ {ts : List TypeId} {vs : List Value} {ds : List (DataW H)} {ps : List MemPlace},
    ts.all (fun t => P.readableRec t && decide (t < P.types.size)) = true → DataW.TrodAll enc P W 0 (fun _ => true) true ts vs ds ps → (∀ x ∈ ps, x.block < W.heap.size) → (∀ x ∈ ps, sp x.block = true) →
    DataW.TrodAll enc P W' 0 sp true ts vs ds ps
  | [], [], [], _, _, h, _, _ => h
  | t :: ts, v :: vs, d :: ds, ps, hr, h, hlt, hsp => by
    obtain ⟨p, q, h1, h2, rfl⟩ := h
    simp only [List.all_cons, Bool.and_eq_true, decide_eq_true_eq] at hr
    exact ⟨p, q, WideElems.Trod_stays hl hr.1.1 hr.1.2 h1 (fun x hx => hb.same (hlt x (by simp [hx]))) (fun x hx => hsp x (by simp [hx])),
      stays_all hl hb hr.2 h2 (fun x hx => hlt x (by simp [hx])) (fun x hx => hsp x (by simp [hx])), rfl⟩
  | [], _ :: _, _, _, _, h, _, _ => h.elim
  | [], [], _ :: _, _, _, h, _, _ => h.elim
  | _ :: _, [], _, _, _, h, _, _ => h.elim
  | _ :: _, _ :: _, [], _, _, h, _, _ => h.elim

theorem law_step {f : FuncId} {fn : Func} {G : List V → Option V} {s : ChangeSpec} {shs : List Sh} {tb : TypeId} {apart fresh handsOn again : Bool} (hC : Contract P f (plain G)) (hl : laidOutB P = true) (hv : s.vars = [])
    (hsh : shapesOf P fn.params.toList = some shs) (hrd : fn.params.toList.all (fun t => P.readableRec t && decide (t < P.types.size)) = true) (hres : fn.resultTypes = #[tb]) (hub : P.underlying tb = some .bool)
    (hsp : ∀ (ds : List (DataW H)), ds.length = fn.params.size → s.fn H ds = { results := [.lit (.bool true)], args := ds })
    {W : World} {base : Nat} {args : Array Value} {ds gs : List (DataW H)} {before : List MemPlace} (hval : ∀ (j : Nat) t v, fn.params[j]? = some t → args[j]? = some v → Value.okWide P W .any base t v)
    (hW : DataW.Whole enc P fn.params.toList s.vars apart W args.toList ds gs before)
    (hG : ∀ rows, EncRs shs rows → (∀ B BA, BulkLaws B BA → bulkRs rows ≤ BA ds) → G (argsOf shs rows) = some (.c (.s (.bool true)))) :
    Calls P f args W fun e W' => ∃ v, e = .returned v ∧ s.post enc P fn apart fresh handsOn again W args v W' := by
  have hWk := hW
  have hlt := hW.lt
  obtain ⟨p, q, hA, hV, rfl, hfz, hnd⟩ := hW
  rw [hv] at hV
  have hgq : gs = [] ∧ q = [] := by
    match gs, hV with
    | [], h => exact ⟨rfl, h⟩
  obtain ⟨rfl, rfl⟩ := hgq
  simp only [List.append_nil] at hlt hfz hnd hWk
  obtain ⟨rows, h1, h2, h3, h4⟩ := open_args (base := base) (r := .any) hsh (fun j t v a b => hval j t v (by simpa using a) (by simpa using b)) hA
  have hg := hG rows h1 h4
  have hcall := hC (fun b => b < W.heap.size) W (argsOf shs rows) args (.v (.c (.s (.bool true)))) (fun b hb => hb) h2 (by simp [plain, hg])
  refine hcall.2.mono ?_
  rintro e W' ⟨u, rfl, hb, hu⟩
  simp only [RRes, RV, RC, RS] at hu
  subst hu
  refine ⟨_, rfl, ?_⟩
  have hspec := hsp ds (by rw [h3]; simp)
  have hold : ∀ x ∈ p, (fun b => decide (b < W.heap.size)) x.block = true := fun x hx => by simpa using hlt x hx
  have hr : ∀ (b : Nat) (sp : Nat → Bool) (hd : Bool), DataW.TrodAll enc P W' b sp hd fn.resultTypes.toList ((Value.bool true).resultList fn.resultTypes.size) [.lit (.bool true)] [] := fun b sp hd => by
    rw [hres]
    refine ⟨[], [], ⟨1, by simp [DataW.trod, Value.cells, hub]⟩, rfl, rfl⟩
  refine ⟨ds, [], p, [], p, [], hWk, ?_, ?_, ?_, ?_, fun _ => ?_⟩
  · rw [List.append_nil, hspec]; exact hr _ _ _
  · rw [List.append_nil, hspec]; exact stays_all hl hb hrd hA hlt hold
  · rw [List.append_nil, hspec, hv]; exact rfl
  · exact World.keptBut_mono (fun x hx => ⟨hx, .inr (.inl hx)⟩) (hb.frame (· ∈ p))
  · refine ⟨?_, [.lit (.bool true)] ++ ds, [], p, ?_, fun x hx _ => hx⟩
    · exact ok_one hres rfl (by simp [Value.okWide, hub, Cell.okWide, Cell.ok])
    · refine ⟨p, [], ?_, by rw [hv]; exact rfl, by simp, ?_, fun ha => hnd ha⟩
      · rw [hres]
        exact ⟨[], p, ⟨1, by simp [DataW.trod, Value.cells, hub]⟩, stays_all hl hb hrd hA hlt (fun _ _ => rfl), rfl⟩
      · intro b off hp
        rw [hb.frozen (hlt _ hp)]
        exact hfz b off hp
end
end Go.Ab
