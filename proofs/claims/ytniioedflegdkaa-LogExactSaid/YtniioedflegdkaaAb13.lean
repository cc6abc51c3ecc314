/- Closures; every operation. -/
import Derived.Test.YtniioedflegdkaaAb12
set_option linter.all false
namespace Go.Ab
open Go Go.RowKit

section
variable {im : Nat → Prop} {w : World} {β : Nat → BI} {P : Program} {N : Nat} {w0 : W0} {st : AS} {a : Act} {v : V} {ups : List (Nat × Obj)}

theorem MemOK.sealBox {m : Nat → Option Obj} (h : MemOK w0 im β m w) {l : Nat} {cells : List C} {ss : List S} (hl : m l = some (.box cells)) (hs : asS cells = some ss) :
    ∃ im', MemOK w0 im' β (upd m l (some (.sbox ss))) w ∧ Ext im im' w w β β m (upd m l (some (.sbox ss))) ∧ ∀ b, (β l).a = some ⟨b, 0, none⟩ → im' b := by
  obtain ⟨b, arr, T, g1, g2, g3⟩ := h.obj l _ hl
  have hown : Owns β m l b := by simp [Owns, hl, g1]
  have hext : Ext im (fun b' => im b' ∨ b' = b) w w β β m (upd m l (some (.sbox ss))) := by
    refine ⟨fun _ h => .inl h, fun _ _ => rfl, fun l' hl' => ⟨?_, rfl⟩, fun l' k rows hr => ⟨rows, ?_, Nat.le_refl _, fun _ => ⟨rfl, rfl⟩⟩⟩
    · by_cases e : l' = l
      · simp [upd, e, isBox]
      · simpa [upd, e] using hl'
    · by_cases e : l' = l
      · subst e; rw [hl] at hr; simp [rowOf] at hr
      · simpa [upd, e] using hr
  refine ⟨_, h.change hext rfl (fun _ _ => rfl) (fun _ _ _ _ => rfl) (Nat.le_refl _) ⟨b, arr, T, (0, 0), g1, g2, RVals.mono hext.hi hext.hw _ _ (asS_ok hs g3)⟩ (fun b' hb' => ?_) (fun b' hb' => ?_) (fun l' b' hl' hb' hi => ?_) h.below (fun b' hb' hlt => hb'.elim id (fun e => absurd (h.own l _ b hl hown).1 (by omega))), hext, fun b' hb' => ?_⟩
  · have e : b' = b := by simp [Owns, upd, g1] at hb'; exact hb'.symm
    subst e
    obtain ⟨q1, q2, _⟩ := h.own l _ b' hl hown
    exact ⟨q1, q2, fun l' hl' hc => hl' (h.dis l' l b' hc hown), by simp [loose]⟩
  · rcases hb' with hb' | rfl
    · exact h.iml b' hb'
    · exact (h.own l _ b' hl hown).2.1
  · rcases hi with hi | rfl
    · exact hi
    · exact absurd (h.dis l' l b' hb' hown) hl'
  · rw [g1] at hb'; simp only [Option.some.injEq, Addr.mk.injEq, and_true] at hb'; exact .inr hb'.symm

theorem RVl.ext {im' : Nat → Prop} {w' : World} {β' : Nat → BI} {m m' : Nat → Option Obj} (h : Ext im im' w w' β β' m m') : ∀ {xs : List V} {vs : List Value}, RVl im w β m xs vs → RVl im' w' β' m' xs vs
  | [], [], _ => trivial
  | _ :: _, _ :: _, hx => ⟨RV.ext h _ _ hx.1, RVl.ext h hx.2⟩
  | [], _ :: _, hx => hx.elim
  | _ :: _, [], hx => hx.elim

theorem rref_of_sbox {m : Nat → Option Obj} (h : MemOK w0 im β m w) {l b : Nat} {ss : List S} (hl : m l = some (.sbox ss)) (hb : (β l).a = some ⟨b, 0, none⟩) : RS im w (.cref ss) (.pointer (some ⟨b, 0, none⟩)) := by
  obtain ⟨b', arr, T, fr, g1, g2, g3⟩ := h.obj l _ hl
  rw [hb] at g1; simp only [Option.some.injEq, Addr.mk.injEq, and_true] at g1; subst g1
  simp only [RS]
  exact ⟨b, 0, rfl, im_of_sealed h hl rfl (by simp [Owns, hl, hb]), rrow_of_vals g2 g3 (fun j u hj => by simpa using hj)⟩

theorem capVs_ok : ∀ {vals : List V} {m : Nat → Option Obj} {im : Nat → Prop} {vs : List Value} {caps : List S} {ups : List (Nat × Obj)}, MemOK w0 im β m w → RVl im w β m vals vs → capVs m vals = some (caps, ups) →
    ∃ im', MemOK w0 im' β (setAll m ups) w ∧ Ext im im' w w β β m (setAll m ups) ∧ RVals im' w caps vs
  | [], m, im, [], caps, ups, h, _, hc => by
    simp only [capVs, Option.some.injEq, Prod.mk.injEq] at hc
    obtain ⟨rfl, rfl⟩ := hc
    exact ⟨im, h, Ext.refl _ _ _ _, by simp [RVals]⟩
  | .c (.s x) :: vals, m, im, v :: vs, caps, ups, h, hv, hc => by
    simp only [capVs] at hc
    split at hc
    · rename_i p e
      simp only [Option.some.injEq, Prod.mk.injEq] at hc
      obtain ⟨rfl, rfl⟩ := hc
      obtain ⟨im', g1, g2, g3⟩ := capVs_ok h hv.2 e
      exact ⟨im', g1, g2, by simp only [RVals]; exact ⟨RS.mono g2.hi g2.hw _ _ hv.1, g3⟩⟩
    · cases hc
  | .c (.ptr l 0) :: vals, m, im, v :: vs, caps, ups, h, hv, hc => by
    simp only [capVs] at hc
    obtain ⟨⟨_, b, hb, ev⟩, hv2⟩ := hv
    subst ev
    split at hc
    · rename_i cells hl
      split at hc
      · rename_i ss hss
        split at hc
        · rename_i p e
          simp only [Option.some.injEq, Prod.mk.injEq] at hc
          obtain ⟨rfl, rfl⟩ := hc
          obtain ⟨im1, q1, q2, q3⟩ := h.sealBox hl hss
          obtain ⟨im', g1, g2, g3⟩ := capVs_ok q1 (RVl.ext q2 hv2) e
          refine ⟨im', g1, q2.trans g2, ?_⟩
          simp only [RVals]
          exact ⟨RS.mono g2.hi g2.hw _ _ (rref_of_sbox q1 (by simp [upd]) hb), g3⟩
        · cases hc
      · cases hc
    · rename_i ss hl
      split at hc
      · rename_i p e
        simp only [Option.some.injEq, Prod.mk.injEq] at hc
        obtain ⟨rfl, rfl⟩ := hc
        obtain ⟨im', g1, g2, g3⟩ := capVs_ok h hv2 e
        refine ⟨im', g1, g2, ?_⟩
        simp only [RVals]
        exact ⟨RS.mono g2.hi g2.hw _ _ (rref_of_sbox h hl hb), g3⟩
      · cases hc
    · cases hc
  | .c (.ptr l (n + 1)) :: vals, m, im, vs, caps, ups, _, _, hc => by simp [capVs] at hc
  | .c (.own l n) :: vals, m, im, vs, caps, ups, _, _, hc => by simp [capVs] at hc
  | .c (.optr l n i o) :: vals, m, im, vs, caps, ups, _, _, hc => by simp [capVs] at hc
  | .junk :: vals, m, im, vs, caps, ups, _, _, hc => by simp [capVs] at hc
  | .undef :: vals, m, im, vs, caps, ups, _, _, hc => by simp [capVs] at hc
  | .tf :: vals, m, im, vs, caps, ups, _, _, hc => by simp [capVs] at hc
  | .agg _ :: vals, m, im, vs, caps, ups, _, _, hc => by simp [capVs] at hc
  | .tup _ :: vals, m, im, vs, caps, ups, _, _, hc => by simp [capVs] at hc
  | [], _, _, _ :: _, _, _, _, hv, _ => hv.elim
  | _ :: _, _, _, [], _, _, _, hv, _ => hv.elim

theorem mkfn_ok (h : Rel N w0 im β st a w) {f : FuncId} {caps : Array Operand} {o : Oper} (ho : o.op = .makeFunc (.func f) #[] caps)
    (hr : runMkfn f st.mem (caps.toList.map fun x => ev st.env (cO x)) = some (v, ups)) : OpOK P w0 im β st.mem a w o v (setAll st.mem ups) := by
  unfold runMkfn at hr
  split at hr
  · rename_i p e
    simp only [Option.some.injEq, Prod.mk.injEq] at hr
    obtain ⟨rfl, rfl⟩ := hr
    obtain ⟨im', g1, g2, g3⟩ := capVs_ok (caps := p.1) (ups := p.2) h.mem (evs_ok h caps.toList) e
    refine .of_run (u := .func (.func f) #[] (caps.map a.eval)) (by simp [execOp, ho, Instr.makeFunc]) g1 g2 ?_
    simp only [RV, RC, RS]
    exact ⟨_, rfl, by rw [Array.toList_map]; exact g3⟩
  · cases hr

/-- The operations of a strings.Builder, which are shown apart. -/
def BldOK (P : Program) : Prop := ∀ (N : Nat) (w0 : W0) (im : Nat → Prop) (β : Nat → BI) (st : AS) (a : Act) (w : World) (v : V) (ups : List (Nat × Obj)) (o : Oper) (c : Call) (f : FuncId) (k : K),
  Rel N w0 im β st a w → o.op = .call c → c.callee = .value (.func f) → (cCall P c).1 = k → ((∃ T, k = .bldByte f T) ∨ (∃ T, k = .bldStr f T) ∨ (∃ T, k = .bldGet f T)) → ∀ (Γ : FuncId → Spec) (d : Nat),
  run Γ d st.mem k (c.args.toList.map fun x => ev st.env (cO x)) = some (v, ups) → OpOK P w0 im β st.mem a w o v (setAll st.mem ups)

theorem cBin_ok (h : Rel N w0 im β st a w) {Γ : FuncId → Spec} {d : Nat} {op : BinOp} {t t' : TypeId} {x y : Operand} {o : Oper} (ho : o.op = .binOp op t x y t')
    (hr : run Γ d st.mem (cBin P op t x y).1 ((cBin P op t x y).2.map (ev st.env)) = some (v, ups)) : OpOK P w0 im β st.mem a w o v (setAll st.mem ups) := by
  unfold cBin at hr
  split at hr
  · rename_i e
    split at hr
    · rename_i ts hts
      split at hr
      · rename_i hg
        refine .of_shown h (ho ▸ ?_)
        exact eqA_ok (neg := false) h hts (by simp [isAggT, e]) hg (by simpa [run] using hr)
      · simp [run] at hr
    · simp [run] at hr
  · rename_i e
    split at hr
    · rename_i ts hts
      split at hr
      · rename_i hg
        refine .of_shown h (ho ▸ ?_)
        exact eqA_ok (neg := true) h hts (by simp [isAggT, e]) hg (by simpa [run] using hr)
      · simp [run] at hr
    · simp [run] at hr
  · rename_i e
    split at hr
    · rename_i hn
      refine .of_shown h (ho ▸ ?_)
      exact nil_ok (neg := false) h e hn (by simpa [run] using hr)
    · simp [run] at hr
  · rename_i e
    split at hr
    · rename_i hn
      refine .of_shown h (ho ▸ ?_)
      exact nil_ok (neg := true) h e hn (by simpa [run] using hr)
    · simp [run] at hr
  · rename_i e
    refine .of_shown h (ho ▸ ?_)
    exact eqB_ok (neg := false) h e (by simpa [run] using hr)
  · rename_i e
    refine .of_shown h (ho ▸ ?_)
    exact eqB_ok (neg := true) h e (by simpa [run] using hr)
  · exact .of_shown h (ho ▸ bin_ok h (by simpa [run] using hr))
  · exact .of_shown h (ho ▸ bin_ok h (by simpa [run] using hr))
  · simp [run] at hr

theorem cCall_ok {Γ : FuncId → Spec} (hΓ : ∀ f, Contract P f (Γ f)) (hB : BldOK P) (h : Rel N w0 im β st a w) {d : Nat} {c : Call} {o : Oper} (ho : o.op = .call c)
    (hr : run Γ d st.mem (cCall P c).1 ((cCall P c).2.map (ev st.env)) = some (v, ups)) : OpOK P w0 im β st.mem a w o v (setAll st.mem ups) := by
  have hB' := fun f k h1 h2 h3 => hB N w0 im β st a w v ups o c f k h ho h1 h2 h3 Γ d
  unfold cCall at hr hB'
  split at hr
  · rename_i f e
    simp only [e] at hB'
    split at hr
    · rename_i fn hfn
      simp only [hfn] at hB'
      split at hr
      · rename_i hn
        simp only [hn, if_true] at hB'
        exact hB' f _ rfl rfl (.inl ⟨_, rfl⟩) (by simpa [List.map_map, Function.comp_def] using hr)
      · rename_i hn1
        simp only [hn1, if_false] at hB'
        split at hr
        · rename_i hn
          simp only [hn, if_true] at hB'
          exact hB' f _ rfl rfl (.inr (.inl ⟨_, rfl⟩)) (by simpa [List.map_map, Function.comp_def] using hr)
        · rename_i hn2
          simp only [hn2, if_false] at hB'
          split at hr
          · rename_i hn
            simp only [hn, if_true] at hB'
            exact hB' f _ rfl rfl (.inr (.inr ⟨_, rfl⟩)) (by simpa [List.map_map, Function.comp_def] using hr)
          · exact callf_ok hΓ h ho e (by simpa [run, List.map_map, Function.comp_def] using hr)
    · simp [run] at hr
  · rename_i x _ e
    exact callv_ok hΓ h ho e (by simpa [run, List.map_map, Function.comp_def] using hr)
  · rename_i e
    split at hr
    · rename_i x e1 e2
      obtain ⟨t, ht1, ht2⟩ := Option.bind_eq_some_iff.1 e1
      exact .of_shown h (ho ▸ len_ok (str := true) h e e2 ht1 (by simpa using ht2) (by simpa [run] using hr))
    · rename_i el x e1 e2
      obtain ⟨t, ht1, ht2⟩ := Option.bind_eq_some_iff.1 e1
      exact .of_shown h (ho ▸ len_ok (str := false) h e e2 ht1 (by simpa using ⟨_, ht2⟩) (by simpa [run] using hr))
    · simp [run] at hr
  · rename_i e
    split at hr
    · rename_i x y e2
      have hc : c = { callee := .builtin (if false then .max else .min), args := #[x, y], argTypes := c.argTypes } := by
        cases c; simp only at e e2; subst e; rw [← e2]; simp
      exact .of_shown h (ho ▸ hc ▸ mnx_ok (isMax := false) h (by simpa [run] using hr))
    · simp [run] at hr
  · rename_i e
    split at hr
    · rename_i x y e2
      have hc : c = { callee := .builtin (if true then .max else .min), args := #[x, y], argTypes := c.argTypes } := by
        cases c; simp only at e e2; subst e; rw [← e2]; simp
      exact .of_shown h (ho ▸ hc ▸ mnx_ok (isMax := true) h (by simpa [run] using hr))
    · simp [run] at hr
  · rename_i e
    split at hr
    · rename_i t u x y e1 e2
      have hct : c.argTypes = #[t, u] := by rw [← Array.toList_inj]; simpa using e1
      have hca : c.args = #[x, y] := by rw [← Array.toList_inj]; simpa using e2
      split at hr
      · rename_i el el' h1 h2
        split at hr
        · rename_i k n z h3 h4 h5
          split at hr
          · rename_i h6
            exact append_ok h ho e hca hct h1 (.inr ⟨_, h2⟩) h3 h4 h5 h6.1 h6.2.1 h6.2.2 (by simpa [run] using hr)
          · simp [run] at hr
        · simp [run] at hr
      · rename_i el h1 h2
        split at hr
        · rename_i k n z h3 h4 h5
          split at hr
          · rename_i h6
            exact append_ok h ho e hca hct h1 (.inl h2) h3 h4 h5 h6.1 h6.2.1 h6.2.2 (by simpa [run] using hr)
          · simp [run] at hr
        · simp [run] at hr
      · simp [run] at hr
    · simp [run] at hr
  · simp [run] at hr

theorem op_ok {Γ : FuncId → Spec} (hΓ : ∀ f, Contract P f (Γ f)) (hB : BldOK P) (h : Rel N w0 im β st a w) {d : Nat} {o : Oper}
    (hr : run Γ d st.mem (cOp P o).1 ((cOp P o).2.map (ev st.env)) = some (v, ups)) : OpOK P w0 im β st.mem a w o v (setAll st.mem ups) := by
  unfold cOp at hr
  split at hr
  · rename_i x ho; exact .of_shown h (ho ▸ (mv_ok h (by simpa [run] using hr)).1)
  · rename_i x ho; exact .of_shown h (ho ▸ (mv_ok h (by simpa [run] using hr)).2)
  · rename_i c x y ho; exact .of_shown h (ho ▸ pick_ok h (by simpa [run] using hr))
  · rename_i e ho
    split at hr
    · rename_i hb
      exact allocB_ok h ho hb (by simpa [run] using hr)
    split at hr
    · rename_i z hz; exact alloc_ok h ho hz (by simpa [run] using hr)
    · simp [run] at hr
  · rename_i e x ho
    split at hr
    · exact box_ok h ho (by simpa [run] using hr)
    · simp [run] at hr
  · rename_i t parts ho
    split at hr
    · rename_i z pl hz hp; exact .of_shown h (ho ▸ build_ok h hz hp (by simpa [run, List.map_map, Function.comp_def] using hr))
    · simp [run] at hr
  · rename_i t len parts ho
    split at hr
    · rename_i e he
      split at hr
      · rename_i k z hk hz
        split at hr
        · rename_i hc; exact bslice_ok h ho he hk hz hc.1 hc.2.1 hc.2.2 (by simpa [run, List.map_map, Function.comp_def] using hr)
        · simp [run] at hr
      · simp [run] at hr
    · simp [run] at hr
  · rename_i t x ho
    split at hr
    · rename_i hu hn; exact .of_shown h (ho ▸ load_ok h hu hn (by simpa [run] using hr))
    · simp [run] at hr
  · rename_i t x y ho
    split at hr
    · rename_i n hn; exact store_ok h ho hn (by simpa [run] using hr)
    · simp [run] at hr
  · rename_i x ho; exact .of_shown h (ho ▸ nilchk_ok h (by simpa [run] using hr))
  · rename_i op t x y t' ho; exact cBin_ok h ho hr
  · rename_i t x ho; exact .of_shown h (ho ▸ not_ok h (by simpa [run] using hr))
  · rename_i s d' x ho
    split at hr
    · rename_i hs hd; exact .of_shown h (ho ▸ conv_ok h hs hd (by simpa [run] using hr))
    · rename_i hs hd; exact .of_shown h (ho ▸ same_ok h hs hd (by simpa [run] using hr))
    · rename_i e hs hd
      split at hr
      · rename_i he
        split at hr
        · exact .of_shown h (ho ▸ toStr_ok h hs he hd (by simpa [run] using hr))
        · simp [run] at hr
      · simp [run] at hr
    · simp [run] at hr
  · rename_i f caps ho; exact mkfn_ok h ho (by simpa [run, List.map_map, Function.comp_def] using hr)
  · rename_i t x lo hi mx ho
    split at hr
    · rename_i ht
      split at hr
      · rename_i hmx
        exact .of_shown h (ho ▸ slcS_ok h ht (by simpa using hmx) (by simpa [run, List.map_map, Function.comp_def] using hr))
      · simp [run] at hr
    · rename_i e ht
      split at hr
      · rename_i k hk
        exact .of_shown h (ho ▸ slcL_ok h ht hk (by simpa [run, List.map_map, Function.comp_def] using hr))
      · simp [run] at hr
    · simp [run] at hr
  · rename_i s x i ho
    split at hr
    · rename_i fs hs
      split at hr
      · rename_i f hf
        split at hr
        · rename_i n hn
          split at hr
          · simp [run] at hr
          · rename_i h0; exact .of_shown h (ho ▸ fadr_ok h hs hf hn h0 (by simpa [run] using hr))
        · simp [run] at hr
      · simp [run] at hr
    · simp [run] at hr
  · rename_i t x i ho
    split at hr
    · rename_i fs hs
      split at hr
      · rename_i f hf
        split at hr
        · rename_i hu hn; exact .of_shown h (ho ▸ fld_ok h hs hf hn hu (by simpa [run] using hr))
        · simp [run] at hr
      · simp [run] at hr
    · simp [run] at hr
  · rename_i t x i ho
    split at hr
    · rename_i e ht
      split at hr
      · rename_i k hk; exact .of_shown h (ho ▸ iadr_ok h ht hk (by simpa [run] using hr))
      · simp [run] at hr
    · rename_i n e ht
      split at hr
      · rename_i k hk; exact .of_shown h (ho ▸ iadrP_ok h ht hk (by simpa [run] using hr))
      · simp [run] at hr
    · simp [run] at hr
  · rename_i t x i ho
    split at hr
    · rename_i ht; exact .of_shown h (ho ▸ idx_ok h ht (by simpa [run] using hr))
    · simp [run] at hr
  · rename_i x i ho; exact .of_shown h (ho ▸ ext_ok h (by simpa [run] using hr))
  · rename_i c ho; exact cCall_ok hΓ hB h ho hr
  · simp [run] at hr
end
end Go.Ab
