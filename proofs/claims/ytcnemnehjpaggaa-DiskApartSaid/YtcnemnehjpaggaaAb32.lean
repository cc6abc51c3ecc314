/- How long a slice may be that a law is handed. -/
import Derived.Test.YtcnemnehjpaggaaAb30
import Derived.SizedLaws
set_option linter.all false
namespace Go.Ab
open Go Go.RowKit
/-- A slice, or one in a struct's field, within what the machine reaches. -/
def SzA (P : Program) (t : TypeId) (row : List S) : Prop := match P.underlying t with
  | some (.slice e) => ∀ k rows f, row = [.list k rows f] → rows.length * P.bytesOf e ≤ reachBytes
  | some (.struct fs) => ∀ (i : Nat) (x : Field) (e : TypeId), fs[i]? = some x → P.underlying x.type = some (.slice e) → ∀ k rows f, row[x.offset]? = some (.list k rows f) → rows.length * P.bytesOf e ≤ reachBytes
  | _ => True
def SzRs (P : Program) : List TypeId → List (List S) → Prop
  | t :: ts, r :: rs => SzA P t r ∧ SzRs P ts rs
  | _, _ => True
theorem SzRs.at {P : Program} : ∀ {ts : List TypeId} {rows : List (List S)} {j : Nat} {t : TypeId} {row : List S}, SzRs P ts rows → ts[j]? = some t → rows[j]? = some row → SzA P t row
  | t :: ts, r :: rs, 0, t', row, h, h1, h2 => by
    simp only [List.getElem?_cons_zero, Option.some.injEq] at h1 h2
    subst h1; subst h2
    exact h.1
  | t :: ts, r :: rs, j + 1, t', row, h, h1, h2 => by
    simp only [List.getElem?_cons_succ] at h1 h2
    exact SzRs.at h.2 h1 h2
  | [], _, _, _, _, _, h1, _ => by simp at h1
  | _ :: _, [], _, _, _, _, _, h2 => by simp at h2
/-- A field at a place is a slice of elements of so many bytes. -/
def szB (P : Program) (ts : List TypeId) (j off b : Nat) : Bool := match ts[j]? with
  | some t => match P.underlying t with
    | some (.struct fs) => fs.toList.any fun x => decide (x.offset = off) && (match P.underlying x.type with
      | some (.slice e) => decide (b ≤ P.bytesOf e)
      | _ => false)
    | _ => false
  | none => false
theorem sz_field {P : Program} {ts : List TypeId} {rows : List (List S)} {j off b : Nat} {row : List S} {k : Nat} {r : List (List S)} {f : Bool} (h : SzRs P ts rows) (hc : szB P ts j off b = true) (hr : rows[j]? = some row) (hq : row[off]? = some (.list k r f)) :
    r.length * b ≤ reachBytes := by
  unfold szB at hc
  split at hc
  · rename_i t ht
    split at hc
    · rename_i fs hu
      obtain ⟨x, hx, hp⟩ := List.any_eq_true.1 hc
      rw [Bool.and_eq_true, decide_eq_true_eq] at hp
      obtain ⟨ho, he⟩ := hp
      split at he
      · rename_i e hue
        obtain ⟨i, hi, hxi⟩ := List.mem_iff_getElem.1 hx
        have hs := SzRs.at h ht hr
        unfold SzA at hs
        rw [hu] at hs
        have hf : fs[i]? = some x := by
          rw [← hxi, ← Array.getElem?_toList, List.getElem?_eq_getElem hi]
        have := hs i x e hf hue k r f (by rw [ho]; exact hq)
        have hb : b ≤ P.bytesOf e := of_decide_eq_true he
        exact Nat.le_trans (Nat.mul_le_mul_left _ hb) this
      · cases he
    · cases hc
  · cases hc
section
variable {im : Nat → Prop} {w : World} {P : Program} {H : Type} {enc : TypeId × Value → H}
theorem vals_get : ∀ {row : List S} {cs : List Value} {i : Nat} {s : S}, RVals im w row cs → row[i]? = some s → ∃ v, cs[i]? = some v ∧ RS im w s v
  | x :: row, y :: cs, 0, s, h, h1 => by
    simp only [RVals] at h
    simp only [List.getElem?_cons_zero, Option.some.injEq] at h1 ⊢
    subst h1
    exact ⟨y, rfl, h.1⟩
  | x :: row, y :: cs, i + 1, s, h, h1 => by
    simp only [RVals] at h
    simp only [List.getElem?_cons_succ] at h1 ⊢
    exact vals_get h.2 h1
  | [], _, _, _, _, h1 => by simp at h1
  | _ :: _, [], _, _, h, _ => by simp [RVals] at h
theorem one_slice {t e : TypeId} (ht : P.underlying t = some (.slice e)) {fuel : Nat} {cs : List Value} {x : DataW H × List MemPlace} (hx : DataW.trod enc P w 0 (fun _ => true) true fuel t cs = some x)
    (hw : ∀ n ∈ x.1.weights P t, n ≤ reachBytes) {k : Nat} {rows : List (List S)} {f : Bool} {v : Value} (hv : RS im w (.list k rows f) v) (hc : ∀ u, cs = [u] → u = v) : rows.length * P.bytesOf e ≤ reachBytes := by
  simp only [RS] at hv
  obtain ⟨a', cap', rfl, _⟩ := hv
  rcases DataW.trod_slice ht hx with ⟨rfl, rfl⟩ | ⟨a, len, cap, elems, rest, n, _, rfl, rfl, _, _, _, hel, _, _⟩
  · have := hc _ rfl
    simp only [Value.slice.injEq] at this
    rw [← this.2.1, Nat.zero_mul]; exact Nat.zero_le _
  · have := hc _ rfl
    simp only [Value.slice.injEq] at this
    rw [← this.2.1, ← hel]
    have := hw ((elems.length + rest.length) * P.bytesOf e) (by simp [DataW.weights, ht])
    exact Nat.le_trans (Nat.mul_le_mul_right _ (Nat.le_add_right _ _)) this
theorem size_arg {t : TypeId} {fuel : Nat} {cs : List Value} {x : DataW H × List MemPlace} (hx : DataW.trod enc P w 0 (fun _ => true) true fuel t cs = some x)
    (hw : ∀ n ∈ x.1.weights P t, n ≤ reachBytes) {row : List S} (hv : RVals im w row cs) : SzA P t row := by
  unfold SzA
  split
  · rename_i e ht
    intro k rows f hr
    subst hr
    obtain ⟨v, h1, h2⟩ := vals_get (i := 0) hv rfl
    exact one_slice ht hx hw h2 fun u hu => by
      rw [hu] at h1; simpa using h1
  · rename_i fs ht
    intro i y e hf hfe k rows f hr
    obtain ⟨xs, n, _, rfl, hlen, hxl, hat⟩ := DataW.trod_struct ht hx
    have hi : i < xs.length := by
      rw [hxl]
      rcases Nat.lt_or_ge i fs.size with h | h
      · exact h
      · rw [Array.getElem?_eq_none h] at hf; cases hf
    have hfi := hat i y hf
    rw [List.getElem?_eq_getElem hi] at hfi
    obtain ⟨v, h1, h2⟩ := vals_get hv hr
    refine one_slice hfe hfi (fun m hm => hw m ?_) h2 fun u hu => ?_
    · simp only [DataW.weights, ht]
      refine DataW.weights_mem_each (j := i) (t := y.type) (d := xs[i].1) ?_ ?_ m hm
      · rw [List.getElem?_map, Array.getElem?_toList, hf]; rfl
      · rw [List.getElem?_map, List.getElem?_eq_getElem hi]; rfl
    · have h3 : ((cs.drop y.offset).take (P.cellsOf y.type))[0]? = some u := by rw [hu]; rfl
      rw [List.getElem?_take] at h3
      split at h3
      · rw [List.getElem?_drop, Nat.add_zero, h1] at h3
        exact (Option.some.inj h3).symm
      · cases h3
  · trivial
theorem open_argsS : ∀ {ts : List TypeId} {shs : List Sh} {vs : List Value} {ds : List (DataW H)} {ps : List MemPlace} {r : Reach} {base : Nat}, shapesOf P ts = some shs →
    (∀ (j : Nat) t v, ts[j]? = some t → vs[j]? = some v → Value.okWide P w r base t v) → DataW.TrodAll enc P w 0 (fun _ => true) true ts vs ds ps → (∀ n ∈ DataW.weightsEach P ts ds, n ≤ reachBytes) →
    ∃ rows, EncRs shs rows ∧ RVl (fun b => b < w.heap.size) w β0 m0 (argsOf shs rows) vs ∧ ds.length = ts.length ∧ SzRs P ts rows
  | [], shs, vs, ds, ps, r, base, hs, hv, h, _ => by
    simp only [shapesOf, Option.some.injEq] at hs; subst hs
    match vs, ds, h with
    | [], [], _ => exact ⟨[], trivial, trivial, rfl, trivial⟩
    | [], _ :: _, h => exact h.elim
    | _ :: _, _, h => exact h.elim
  | t :: ts, shs, vs, ds, ps, r, base, hs, hv, h, hw => by
    simp only [shapesOf] at hs
    split at hs
    · rename_i s l h1 h2
      simp only [Option.some.injEq] at hs; subst hs
      match vs, ds, h, hw with
      | [], _, h, _ => exact h.elim
      | _ :: _, [], h, _ => exact h.elim
      | v :: vs, d :: ds, ⟨p, q, h3, h4, _⟩, hw =>
        obtain ⟨fuel, hf⟩ := id h3
        obtain ⟨row, g1, g2, _, g4⟩ := open_arg h1 (hv 0 t v rfl rfl) h3
        obtain ⟨rows, k1, k2, k3, k4⟩ := open_argsS h2 (fun j t v a b => hv (j + 1) t v (by simpa using a) (by simpa using b)) h4 (fun n hn => hw n (by simp only [DataW.weightsEach, List.mem_append]; exact .inr hn))
        exact ⟨row :: rows, ⟨g1, k1⟩, ⟨g2, k2⟩, by simp [k3], size_arg hf (fun n hn => hw n (by simp only [DataW.weightsEach, List.mem_append]; exact .inl hn)) g4, k4⟩
    · cases hs
theorem law_stepS {f : FuncId} {fn : Func} {G : List V → Option V} {s : ChangeSpec} {shs : List Sh} {tb : TypeId} {apart fresh handsOn again : Bool} (hC : Contract P f (plain G)) (hl : laidOutB P = true) (hv : s.vars = [])
    (hsh : shapesOf P fn.params.toList = some shs) (hrd : fn.params.toList.all (fun t => P.readableRec t && decide (t < P.types.size)) = true) (hres : fn.resultTypes = #[tb]) (hub : P.underlying tb = some .bool)
    (hsp : ∀ (ds : List (DataW H)), ds.length = fn.params.size → s.fn H ds = { results := [.lit (.bool true)], args := ds })
    {W : World} {base : Nat} {args : Array Value} {ds gs : List (DataW H)} {before : List MemPlace} (hval : ∀ (j : Nat) t v, fn.params[j]? = some t → args[j]? = some v → Value.okWide P W .any base t v)
    (hW : DataW.Whole enc P fn.params.toList s.vars apart W args.toList ds gs before) (hz : (DataW.weightsEach P (fn.params.toList ++ s.plain.varTypes P) (ds ++ gs)).all (· ≤ reachBytes) = true)
    (hG : ∀ rows, EncRs shs rows → SzRs P fn.params.toList rows → G (argsOf shs rows) = some (.c (.s (.bool true)))) :
    Calls P f args W fun e W' => ∃ v, e = .returned v ∧ s.post enc P fn apart fresh handsOn again W args v W' := by
  have hWk := hW
  have hlt := hW.lt
  obtain ⟨p, q, hA, hV, rfl, hfz, hnd⟩ := hW
  rw [hv] at hV
  have hgq : gs = [] ∧ q = [] := by
    match gs, hV with
    | [], h => exact ⟨rfl, h⟩
  obtain ⟨rfl, rfl⟩ := hgq
  simp only [List.append_nil] at hlt hfz hnd hWk
  have hvt : s.plain.varTypes P = [] := by simp [DataSpec.varTypes, ChangeSpec.plain, hv]
  rw [hvt, List.append_nil, List.append_nil] at hz
  obtain ⟨rows, h1, h2, h3, h4⟩ := open_argsS (base := base) (r := .any) hsh (fun j t v a b => hval j t v (by simpa using a) (by simpa using b)) hA (fun n hn => by simpa using List.all_eq_true.1 hz n hn)
  have hg := hG rows h1 h4
  have hcall := hC (fun b => b < W.heap.size) W (argsOf shs rows) args (.v (.c (.s (.bool true)))) (fun b hb => hb) h2 (by simp [plain, hg])
  refine hcall.2.mono ?_
  rintro e W' ⟨u, rfl, hb, hu⟩
  simp only [RRes, RV, RC, RS] at hu
  subst hu
  refine ⟨_, rfl, ?_⟩
  have hspec := hsp ds (by rw [h3]; simp)
  have hold : ∀ x ∈ p, (fun b => decide (b < W.heap.size)) x.block = true := fun x hx => by simpa using hlt x hx
  have hr : ∀ (b : Nat) (sp : Nat → Bool) (hd : Bool), DataW.TrodAll enc P W' b sp hd fn.resultTypes.toList ((Value.bool true).resultList fn.resultTypes.size) [.lit (.bool true)] [] := fun b sp hd => by
    rw [hres]
    refine ⟨[], [], ⟨1, by simp [DataW.trod, Value.cells, hub]⟩, rfl, rfl⟩
  refine ⟨ds, [], p, [], p, [], hWk, ?_, ?_, ?_, ?_, fun _ => ?_⟩
  · rw [List.append_nil, hspec]; exact hr _ _ _
  · rw [List.append_nil, hspec]; exact stays_all hl hb hrd hA hlt hold
  · rw [List.append_nil, hspec, hv]; exact rfl
  · exact World.keptBut_mono (fun x hx => ⟨hx, .inr (.inl hx)⟩) (hb.frame (· ∈ p))
  · refine ⟨?_, [.lit (.bool true)] ++ ds, [], p, ?_, fun x hx _ => hx⟩
    · exact ok_one hres rfl (by simp [Value.okWide, hub, Cell.okWide, Cell.ok])
    · refine ⟨p, [], ?_, by rw [hv]; exact rfl, by simp, ?_, fun ha => hnd ha⟩
      · rw [hres]
        exact ⟨[], p, ⟨1, by simp [DataW.trod, Value.cells, hub]⟩, stays_all hl hb hrd hA hlt (fun _ _ => rfl), rfl⟩
      · intro b off hp
        rw [hb.frozen (hlt _ hp)]
        exact hfz b off hp
end
end Go.Ab
