/- strings.Builder: out of what its methods do to the heap: what they do in the abstract machine. -/
import Derived.Test.YtcnemnehjpaggaaAb16
set_option linter.all false
namespace Go.Ab
open Go Go.RowKit

/-- A builder's block, and the row it holds. -/
def BSt (w : World) (b : Nat) (T : TypeId × TypeId) (s : List UInt8) (g : Option Nat) : Prop :=
  (s = [] ∧ g = none ∧ ∃ p, (p = none ∨ p = some ⟨b, 0, none⟩) ∧ w.heap[b]? = some (.cells #[.pointer p, .slice none 0 0] T.1 (0, 0))) ∨
  (∃ b2 arr cap fr, g = some b2 ∧ b2 ≠ b ∧ w.heap[b]? = some (.cells #[.pointer (some ⟨b, 0, none⟩), .slice (some ⟨b2, 0, none⟩) s.length cap] T.1 (0, 0)) ∧
    w.heap[b2]? = some (.cells arr T.2 fr) ∧ arr.size = cap ∧ s.length ≤ cap ∧ 0 < cap ∧ fr.2 ≤ s.length ∧
    ∀ i (h : i < s.length), arr[i]? = some (.int .u8 (s[i].toNat : Int)))

/-- What a method turns: the builder's block and its row; no other. -/
structure BTurn (w w' : World) (b : Nat) (T : TypeId × TypeId) (s' : List UInt8) (g g' : Option Nat) : Prop where
  st : BSt w' b T s' g'
  kept : ∀ k, k < w.heap.size → k ≠ b → g ≠ some k → w'.heap[k]? = w.heap[k]?
  size : w.heap.size ≤ w'.heap.size
  row : ∀ k, g' = some k → g = some k ∨ w.heap.size ≤ k
  os : w'.os = w.os
  tape : w'.tape = w.tape
  output : w'.output = w.output

/-- What a program's builder methods do. -/
structure BldW (P : Program) : Prop where
  byte : ∀ f fn, P.funcs[f]? = some fn → fn.name = nmByte → Callable P f ∧ ∀ (w : World) (b : Nat) (s : List UInt8) (g : Option Nat) (c : Int), BSt w b (ptrT P fn) s g → 0 ≤ c → c < 256 → s.length < 35184372088832 →
    Calls P f #[.pointer (some ⟨b, 0, none⟩), .int .u8 c] w fun e w' => e = .returned .nilIface ∧ ∃ g', BTurn w w' b (ptrT P fn) (s ++ [UInt8.ofNat c.toNat]) g g'
  str : ∀ f fn, P.funcs[f]? = some fn → fn.name = nmStr → Callable P f ∧ ∀ (w : World) (b : Nat) (s t : List UInt8) (g : Option Nat), BSt w b (ptrT P fn) s g → s.length + t.length < 35184372088832 →
    Calls P f #[.pointer (some ⟨b, 0, none⟩), .string ⟨⟨t⟩⟩] w fun e w' => e = .returned (.tuple #[.int .i64 t.length, .nilIface]) ∧ ∃ g', BTurn w w' b (ptrT P fn) (s ++ t) g g'
  get : ∀ f fn, P.funcs[f]? = some fn → fn.name = nmGet → Callable P f ∧ ∀ (w : World) (b : Nat) (s : List UInt8) (g : Option Nat), BSt w b (ptrT P fn) s g → s.length < 35184372088832 →
    Calls P f #[.pointer (some ⟨b, 0, none⟩)] w fun e w' => e = .returned (.string ⟨⟨s⟩⟩) ∧ ∃ g', BTurn w w' b (ptrT P fn) s g g'

section
variable {im : Nat → Prop} {w : World} {β : Nat → BI} {P : Program} {N : Nat} {w0 : W0} {st : AS} {a : Act} {v : V} {ups : List (Nat × Obj)}

theorem bst_lt {b : Nat} {T : TypeId × TypeId} {s : List UInt8} {g : Option Nat} (h : BSt w b T s g) : b < w.heap.size ∧ ∀ k, g = some k → k < w.heap.size ∧ k ≠ b := by
  have lt : ∀ {k : Nat} {o : Go.Obj}, w.heap[k]? = some o → k < w.heap.size := fun h => (Array.getElem?_eq_some_iff.1 h).1
  rcases h with ⟨_, hg, p, _, hb⟩ | ⟨b2, arr, cap, fr, hg, hne, hb, h2, _⟩
  · exact ⟨lt hb, fun k hk => by rw [hg] at hk; cases hk⟩
  · refine ⟨lt hb, fun k hk => ?_⟩
    rw [hg] at hk
    simp only [Option.some.injEq] at hk; subst hk
    exact ⟨lt h2, hne⟩

/-- A builder that has turned. -/
theorem bld_turn {m : Nat → Option Obj} {l b : Nat} {T : TypeId × TypeId} {s s' : List UInt8} {g' : Option Nat} {w' : World} (h : MemOK w0 im β m w) (hl : m l = some (.bld T s)) (hb : (β l).a = some ⟨b, 0, none⟩)
    (ht : BTurn w w' b T s' (β l).a2 g') :
    ∃ β', MemOK w0 im β' (upd m l (some (.bld T s'))) w' ∧ Ext im im w w' β β' m (upd m l (some (.bld T s'))) := by
  have hOb : Owns β m l b := by simp [Owns, hl, hb]
  have hOg : ∀ k, (β l).a2 = some k → Owns β m l k := fun k hk => by simp [Owns, hl, hk]
  have ob := h.own l _ b hl hOb
  have nim : ∀ k, im k → k ≠ b ∧ (β l).a2 ≠ some k := fun k hk => by
    refine ⟨fun e => ?_, fun e => ?_⟩
    · subst e; exact ob.2.2.1 rfl hk
    · exact (h.own l _ k hl (hOg k e)).2.2.1 rfl hk
  have hext : Ext im im w w' β (upd β l ⟨some ⟨b, 0, none⟩, (β l).cap, g'⟩) m (upd m l (some (.bld T s'))) := by
    refine ⟨fun _ q => q, fun k hk => ht.kept k (h.iml k hk) (nim k hk).1 (nim k hk).2, fun l' hl' => ?_, fun l' k rows hr => ?_⟩
    · by_cases e : l' = l
      · subst e; simp [upd, isBox, hb]
      · simp [upd, e, hl']
    · have e : l' ≠ l := by intro e; subst e; rw [hl] at hr; cases hr
      exact ⟨rows, by simpa [upd, e] using hr, Nat.le_refl _, fun _ => by simp [upd, e]⟩
  refine ⟨_, h.change hext rfl (fun l' e => by simp [upd, e]) (fun l' k e hk => ?_) ht.size ?_ (fun k hk => ?_) (fun k hk => Nat.lt_of_lt_of_le (h.iml k hk) ht.size) (fun _ _ _ _ q => q) ?_ (fun _ q _ => q), hext⟩
  · cases ho : m l' with
    | none => simp [Owns, ho] at hk
    | some o' =>
      refine ht.kept k (h.own l' o' k ho hk).2.1 (fun e' => ?_) (fun e' => ?_)
      · subst e'; exact e (h.dis l' l k hk hOb)
      · exact e (h.dis l' l k hk (hOg k e'))
  · refine ⟨b, by simp [upd], ?_⟩
    have := ht.st
    simp only [upd, if_true]
    exact this
  · have hk' : k = b ∨ g' = some k := by
      simp [Owns, upd] at hk
      rcases hk with q | q
      · exact .inl q.symm
      · exact .inr q
    have lt := bst_lt ht.st
    rcases hk' with q | q
    · subst q
      exact ⟨ob.1, lt.1, fun l' e q => e (h.dis l' l k q hOb), by simp only [loose, true_iff]; exact ob.2.2.1 rfl⟩
    · rcases ht.row k q with q' | q'
      · have ok := h.own l _ k hl (hOg k q')
        exact ⟨ok.1, (lt.2 k q).1, fun l' e q => e (h.dis l' l k q (hOg k q')), by simp only [loose, true_iff]; exact ok.2.2.1 rfl⟩
      · refine ⟨Nat.le_trans h.below.size q', (lt.2 k q).1, fun l' e hO => ?_, by simp only [loose, true_iff]; exact fun hi => by have := h.iml k hi; omega⟩
        cases ho : m l' with
        | none => simp [Owns, ho] at hO
        | some o' => have := (h.own l' o' k ho hO).2.1; omega
  · refine ⟨ht.os.trans h.below.os, ht.tape.trans h.below.tape, ht.output.trans h.below.output, Nat.le_trans h.below.size ht.size, fun k hk => ?_⟩
    have hkw : k < w.heap.size := Nat.lt_of_lt_of_le hk h.below.size
    rw [ht.kept k hkw (fun e => by subst e; omega) (fun e => by have := (h.own l _ k hl (hOg k e)).1; omega)]
    exact h.below.block k hk

theorem bldOK (hW : BldW P) : BldOK P := by
  intro N w0 im β st a w v ups o c f k hrel ho hcal hk hkk Γ d hr
  have henter : ∀ {vs : Array Value}, Callable P f → vs = c.args.map a.eval → (execOp a.eval o).run P w = .ok (.enter f vs) w := fun {vs} hc e => by
    subst e
    simp [execOp, ho, resolve, hcal, Act.eval, Deferred.ofValue, invoke, callFunc_run hc]
  have hargs := evs_ok hrel c.args.toList
  -- which function it is
  unfold cCall at hk
  rw [hcal] at hk
  simp only at hk
  split at hk
  case h_2 => subst hk; simp at hkk
  rename_i fn hfn
  -- the end of all three: one thing has turned
  have fin : ∀ {l b : Nat} {s s' : List UInt8} {vs : Array Value} {u : Value}, st.mem l = some (.bld (ptrT P fn) s) → (β l).a = some ⟨b, 0, none⟩ → Callable P f → vs = c.args.map a.eval →
      Calls P f vs w (fun e w' => e = .returned u ∧ ∃ g', BTurn w w' b (ptrT P fn) s' (β l).a2 g') → (∀ im β m w', RV im w' β m v u) → OpOK P w0 im β st.mem a w o v (setAll st.mem [(l, .bld (ptrT P fn) s')]) := by
    intro l b s s' vs u hl hb hc hvs hcalls hv next Q hnext
    unfold Oper.wp
    rw [henter hc hvs, Oper.upon_enter]
    refine hcalls.mono ?_
    rintro e w' ⟨rfl, g', ht⟩
    obtain ⟨β', g1, g2⟩ := bld_turn hrel.mem hl hb ht
    exact hnext u w' im β' g1 g2 (hv _ _ _ _)
  have args1 : ∀ {l : Nat} {x : V}, (c.args.toList.map fun x => ev st.env (cO x)) = [.c (.ptr l 0), x] → ∃ b y, (β l).a = some ⟨b, 0, none⟩ ∧ c.args.map a.eval = #[.pointer (some ⟨b, 0, none⟩), y] ∧ RV im w β st.mem x y := fun {l x} e => by
    rw [e] at hargs
    generalize hvs : c.args.toList.map a.eval = vs at hargs
    match vs, hargs with
    | [p, y], h2 =>
      obtain ⟨h3, h4, _⟩ := h2
      simp only [RV, RC] at h3
      obtain ⟨_, b, hb, hp⟩ := h3
      refine ⟨b, y, hb, ?_, h4⟩
      rw [← Array.toArray_toList (xs := c.args.map a.eval), Array.toList_map, hvs, hp]
  split at hk
  · rename_i hn
    subst hk
    obtain ⟨hc, hcalls⟩ := hW.byte f fn hfn hn
    simp only [run] at hr
    unfold runBldByte at hr
    split at hr
    · rename_i l cc e
      split at hr
      · rename_i s hs
        simp only [Option.ite_none_right_eq_some, Option.some.injEq, Prod.mk.injEq] at hr
        obtain ⟨hcc, rfl, rfl⟩ := hr
        obtain ⟨b, y, hb, hvs, hy⟩ := args1 e
        simp only [RV, RC, RS] at hy
        subst hy
        have hl : st.mem l = some (.bld (ptrT P fn) s) := by
          unfold bldOf at hs
          split at hs
          · rename_i T' s' hm
            simp only [Option.ite_none_right_eq_some, Option.some.injEq] at hs
            rw [hm, hs.1, hs.2]
          · cases hs
        obtain ⟨b', hb', hst⟩ := hrel.mem.obj l _ hl
        rw [hb] at hb'
        simp only [Option.some.injEq, Addr.mk.injEq, and_true] at hb'; subst hb'
        exact fin hl hb hc hvs.symm (hcalls w b s _ cc hst hcc.1 hcc.2.1 hcc.2.2) (fun _ _ _ _ => by simp [RV, RC, RS, flat])
      · cases hr
    · cases hr
  · split at hk
    · rename_i hn
      subst hk
      obtain ⟨hc, hcalls⟩ := hW.str f fn hfn hn
      simp only [run] at hr
      unfold runBldStr at hr
      split at hr
      · rename_i l t e
        split at hr
        · rename_i s hs
          simp only [Option.ite_none_right_eq_some, Option.some.injEq, Prod.mk.injEq] at hr
          obtain ⟨hcc, rfl, rfl⟩ := hr
          obtain ⟨b, y, hb, hvs, hy⟩ := args1 e
          simp only [RV, RC, RS] at hy
          subst hy
          have hl : st.mem l = some (.bld (ptrT P fn) s) := by
            unfold bldOf at hs
            split at hs
            · rename_i T' s' hm
              simp only [Option.ite_none_right_eq_some, Option.some.injEq] at hs
              rw [hm, hs.1, hs.2]
            · cases hs
          obtain ⟨b', hb', hst⟩ := hrel.mem.obj l _ hl
          rw [hb] at hb'
          simp only [Option.some.injEq, Addr.mk.injEq, and_true] at hb'; subst hb'
          exact fin hl hb hc hvs.symm (hcalls w b s t _ hst hcc) (fun _ _ _ _ => ⟨_, rfl, by simp [RTs, RC, RS, flat]⟩)
        · cases hr
      · cases hr
    · split at hk
      · rename_i hn
        subst hk
        obtain ⟨hc, hcalls⟩ := hW.get f fn hfn hn
        simp only [run] at hr
        unfold runBldGet at hr
        split at hr
        · rename_i l e
          split at hr
          · rename_i s hs
            simp only [Option.ite_none_right_eq_some, Option.some.injEq, Prod.mk.injEq] at hr
            obtain ⟨hcc, rfl, rfl⟩ := hr
            have hl : st.mem l = some (.bld (ptrT P fn) s) := by
              unfold bldOf at hs
              split at hs
              · rename_i T' s' hm
                simp only [Option.ite_none_right_eq_some, Option.some.injEq] at hs
                rw [hm, hs.1, hs.2]
              · cases hs
            obtain ⟨b, hb, hst⟩ := hrel.mem.obj l _ hl
            have hvs : c.args.map a.eval = #[.pointer (some ⟨b, 0, none⟩)] := by
              rw [e] at hargs
              generalize hvs : c.args.toList.map a.eval = vs at hargs
              match vs, hargs with
              | [p], h2 =>
                obtain ⟨h3, _⟩ := h2
                simp only [RV, RC] at h3
                obtain ⟨_, b', hb', hp⟩ := h3
                rw [hb] at hb'
                simp only [Option.some.injEq, Addr.mk.injEq, and_true] at hb'; subst hb'
                rw [← Array.toArray_toList (xs := c.args.map a.eval), Array.toList_map, hvs, hp]
            exact fin hl hb hc hvs.symm (hcalls w b s _ hst hcc) (fun _ _ _ _ => by simp [RV, RC, RS])
          · cases hr
        · cases hr
      · subst hk; simp at hkk
end
end Go.Ab
