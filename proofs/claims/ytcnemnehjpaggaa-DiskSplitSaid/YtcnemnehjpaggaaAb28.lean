/- Plain laws that the reckoning of a condition leans on, in the same set. -/
import Derived.Test.YtcnemnehjpaggaaAb27
set_option linter.all false
namespace Go.Ab
open Go
theorem callE_false {G : List V → Option V} {vals : List V} {K : V → Prop} : callE G vals false K = K .undef := by
  simp [callE, ifV, bindV]
theorem pureE_false {ok : Prop} {v : V} {K : V → Prop} : pureE false ok v K = K .undef := by
  simp [pureE, ifV, bindV]
theorem splice_eq {α : Type} {xs ys : List α} {o : Nat} : splice xs o ys = xs.take o ++ ys ++ xs.drop (o + ys.length) := nr rfl
theorem chunks_zero {α : Type} {k : Nat} {xs : List α} : chunks k 0 xs = [] := nr rfl
theorem chunks_succ {α : Type} {k n : Nat} {xs : List α} : chunks k (n + 1) xs = xs.take k :: chunks k n (xs.drop k) := nr rfl
theorem flat_rep {α : Type} {n : Nat} {xs : List α} : (List.replicate (n + 1) xs).flatten = xs ++ (List.replicate n xs).flatten := by simp [List.replicate_succ]
theorem flat_rep0 {α : Type} {xs : List α} : (List.replicate 0 xs).flatten = [] := nr rfl
theorem env_nil {m : Nat → Option Obj} {ks : List Nat} {env : Nat → V} : EnvFit m ks env [] = True := nr rfl
theorem env_cons {m : Nat → Option Obj} {ks : List Nat} {env : Nat → V} {i : Nat} {v : V} {r : List (Nat × V)} : EnvFit m ks env ((i, v) :: r) = (VFit m ks (env i) v ∧ EnvFit m ks env r) := nr rfl
theorem mem_nil {m : Nat → Option Obj} {ks : List Nat} : MemFit m ks [] = True := nr rfl
theorem mem_cons {m : Nat → Option Obj} {ks : List Nat} {i : Nat} {o : Obj} {r : List (Nat × Obj)} : MemFit m ks ((i, o) :: r) = (OOFit m ks (m i) o ∧ MemFit m ks r) := nr rfl
theorem oo_some {m : Nat → Option Obj} {ks : List Nat} {o o' : Obj} : OOFit m ks (some o) o' = OFit m ks o o' := nr rfl
theorem of_box {m : Nat → Option Obj} {ks : List Nat} {xs ys : List C} : OFit m ks (.box xs) (.box ys) = CsFit m ks xs ys := nr rfl
theorem of_row {m : Nat → Option Obj} {ks : List Nat} {k k' : Nat} {a b : List (List S)} : OFit m ks (.row k a) (.row k' b) = (k = k' ∧ a = b) := nr rfl
theorem of_srow {m : Nat → Option Obj} {ks : List Nat} {k k' : Nat} {a b : List (List S)} : OFit m ks (.srow k a) (.srow k' b) = (k = k' ∧ a = b) := nr rfl
theorem of_sbox {m : Nat → Option Obj} {ks : List Nat} {a b : List S} : OFit m ks (.sbox a) (.sbox b) = (a = b) := nr rfl
theorem of_bld {m : Nat → Option Obj} {ks : List Nat} {T T' : TypeId × TypeId} {a b : List UInt8} : OFit m ks (.bld T a) (.bld T' b) = (T = T' ∧ a = b) := nr rfl
theorem cs_nil {m : Nat → Option Obj} {ks : List Nat} : CsFit m ks [] [] = True := nr rfl
theorem cs_cons {m : Nat → Option Obj} {ks : List Nat} {x y : C} {xs ys : List C} : CsFit m ks (x :: xs) (y :: ys) = (CFit m ks x y ∧ CsFit m ks xs ys) := nr rfl
theorem vf_c {m : Nat → Option Obj} {ks : List Nat} {x y : C} : VFit m ks (.c x) (.c y) = CFit m ks x y := by
  cases x with
  | s x => cases x <;> rfl
  | _ => rfl
theorem vf_a {m : Nat → Option Obj} {ks : List Nat} {x y : List C} : VFit m ks (.agg x) (.agg y) = CsFit m ks x y := nr rfl
theorem vf_tf {m : Nat → Option Obj} {ks : List Nat} : VFit m ks .tf .tf = True := nr rfl
theorem vf_b {m : Nat → Option Obj} {ks : List Nat} {b : Bool} : VFit m ks (.c (.s (.bool b))) .tf = True := nr rfl
theorem vf_j {m : Nat → Option Obj} {ks : List Nat} {x : V} : VFit m ks x .junk = True := by unfold VFit; split <;> simp_all
theorem cf_str {m : Nat → Option Obj} {ks : List Nat} {x y : List UInt8} : CFit m ks (.s (.str x)) (.s (.str y)) = (x = y) := by simp [CFit]
theorem cf_int {m : Nat → Option Obj} {ks : List Nat} {k : IntKind} {x y : Int} : CFit m ks (.s (.int k x)) (.s (.int k y)) = (x = y) := by simp [CFit]
theorem cf_bool {m : Nat → Option Obj} {ks : List Nat} {x y : Bool} : CFit m ks (.s (.bool x)) (.s (.bool y)) = (x = y) := by simp [CFit]
theorem cf_list {m : Nat → Option Obj} {ks : List Nat} {k k' : Nat} {x y : List (List S)} {f f' : Bool} : CFit m ks (.s (.list k x f)) (.s (.list k' y f')) = (k = k' ∧ x = y ∧ f = f') := by simp [CFit]
theorem cf_cref {m : Nat → Option Obj} {ks : List Nat} {x y : List S} : CFit m ks (.s (.cref x)) (.s (.cref y)) = (x = y) := by simp [CFit]
theorem cf_fn {m : Nat → Option Obj} {ks : List Nat} {f g : FuncId} {x y : List S} : CFit m ks (.s (.fn f x)) (.s (.fn g y)) = (f = g ∧ x = y) := by simp [CFit]
theorem cf_ptr {m : Nat → Option Obj} {ks : List Nat} {l l' o o' : Nat} : CFit m ks (.ptr l o) (.ptr l' o') = (l = l' ∧ o = o' ∧ l ∈ ks) := nr rfl
theorem cf_own {m : Nat → Option Obj} {ks : List Nat} {l l' o o' : Nat} : CFit m ks (.own l o) (.own l' o') = (l = l' ∧ o = o' ∧ l ∈ ks) := nr rfl
theorem cf_optr {m : Nat → Option Obj} {ks : List Nat} {l l' n n' i i' o o' : Nat} : CFit m ks (.optr l n i o) (.optr l' n' i' o') = (l = l' ∧ n = n' ∧ i = i' ∧ o = o' ∧ l ∈ ks) := nr rfl
def rowEq (o : Option Obj) (n k : Nat) (rows : List (List S)) : Prop := rowOf o = some (k, rows) ∧ n = rows.length
theorem cf_seal {m : Nat → Option Obj} {ks : List Nat} {l n k : Nat} {rows : List (List S)} {f : Bool} : CFit m ks (.own l n) (.s (.list k rows f)) = (f = false ∧ l ∉ ks ∧ rowEq (m l) n k rows) := nr rfl
theorem rowEq_row {n k k' : Nat} {rows rows' : List (List S)} : rowEq (some (.row k' rows')) n k rows = (k' = k ∧ rows' = rows ∧ n = rows.length) := by simp [rowEq, rowOf, and_assoc]
theorem rowEq_srow {n k k' : Nat} {rows rows' : List (List S)} : rowEq (some (.srow k' rows')) n k rows = (k' = k ∧ rows' = rows ∧ n = rows.length) := by simp [rowEq, rowOf, and_assoc]
theorem meets_eq {env : Nat → V} {m : Nat → Option Obj} {live : List (Nat × V)} {mem : List (Nat × Obj)} : Meets ⟨env, m⟩ live mem = (EnvFit m (mem.map (·.1)) env live ∧ MemFit m (mem.map (·.1)) mem) := nr rfl
theorem apart_nil {b : List Nat} : apartL [] b = true := nr rfl
theorem apart_nil2 {b : List Nat} : apartL b [] = true := by simp [apartL]
theorem apart_ite {c : Bool} {a b : List Nat} : apartL a (if c = true then b else []) = (!c || apartL a b) := by
  cases c <;> simp [apartL]
theorem apart_ite2 {c : Bool} {a b : List Nat} : apartL (if c = true then a else []) b = (!c || apartL a b) := by
  cases c <;> simp [apartL]
theorem pairs_nil {t : List (List Nat)} : pairsOk t [] = true := nr rfl
theorem pairs_cons {t : List (List Nat)} {i j : Nat} {r : List (Nat × Nat)} : pairsOk t ((i, j) :: r) = (apartL (t.getD i []) (t.getD j []) && pairsOk t r) := nr rfl
theorem locsK_eq {k : K} {vals : List V} {d : Nat} : locsK k vals d = (if touches k then vals.flatMap locV else []) ++ (if usesD k then [d] else []) := nr rfl
theorem tf_false : (true = false) = False := by simp
theorem ft_false : (false = true) = False := by simp
theorem byte_ok (c : UInt8) : (0 : Int) ≤ ((c.toNat : Nat) : Int) ∧ ((c.toNat : Nat) : Int) < 256 := by have := c.toNat_lt; omega
theorem byte_lt (c : UInt8) : (((c.toNat : Nat) : Int) < 256) = True := by have := c.toNat_lt; simp; omega
theorem byte_ge (c : UInt8) : ((0 : Int) ≤ ((c.toNat : Nat) : Int)) = True := by simp
theorem byte_of (c : UInt8) : UInt8.ofNat ((c.toNat : Int)).toNat = c := by simp
theorem byte_of' (c : UInt8) : UInt8.ofNat c.toNat = c := by simp
theorem byte_ex {c : Int} (h : 0 ≤ c ∧ c < 256) : ∃ x : UInt8, c = x.toNat := ⟨UInt8.ofNat c.toNat, by
  have : (UInt8.ofNat c.toNat).toNat = c.toNat := by rw [UInt8.toNat_ofNat', Nat.mod_eq_of_lt (by omega)]
  rw [this]; omega⟩
theorem byte_forall {P : UInt8 → Prop} [DecidablePred P] (h : ∀ n : Fin 256, P (UInt8.ofNat n.val)) (x : UInt8) : P x := by
  have := h ⟨x.toNat, x.toNat_lt⟩
  simpa using this
theorem byte_ind {motive : UInt8 → Prop} (h : ∀ n : Fin 256, motive (UInt8.ofNat n.val)) (x : UInt8) : motive x := by
  have := h ⟨x.toNat, x.toNat_lt⟩
  simpa using this
theorem byte_eqI (c d : UInt8) : ((c.toNat : Int) = (d.toNat : Int)) = (c = d) := by
  apply propext
  constructor
  · intro h; exact UInt8.toNat_inj.1 (by omega)
  · rintro rfl; rfl
theorem byte_ltI (c d : UInt8) : ((c.toNat : Int) < (d.toNat : Int)) = (c < d) := by
  apply propext; rw [UInt8.lt_iff_toNat_lt]; omega
theorem byte_eq34 (c : UInt8) : ((c.toNat : Int) = 34) = (c = 34) := byte_eqI c 34
theorem byte_eq92 (c : UInt8) : ((c.toNat : Int) = 92) = (c = 92) := byte_eqI c 92
theorem byte_eq120 (c : UInt8) : ((c.toNat : Int) = 120) = (c = 120) := byte_eqI c 120
theorem byte_eq32 (c : UInt8) : ((c.toNat : Int) = 32) = (c = 32) := byte_eqI c 32
theorem byte_eq10 (c : UInt8) : ((c.toNat : Int) = 10) = (c = 10) := byte_eqI c 10
theorem byte_eq59 (c : UInt8) : ((c.toNat : Int) = 59) = (c = 59) := byte_eqI c 59
theorem byte_eq123 (c : UInt8) : ((c.toNat : Int) = 123) = (c = 123) := byte_eqI c 123
theorem byte_eq125 (c : UInt8) : ((c.toNat : Int) = 125) = (c = 125) := byte_eqI c 125
theorem byte_eq47 (c : UInt8) : ((c.toNat : Int) = 47) = (c = 47) := byte_eqI c 47
theorem byte_eq42 (c : UInt8) : ((c.toNat : Int) = 42) = (c = 42) := byte_eqI c 42
theorem byte_eq72 (c : UInt8) : ((c.toNat : Int) = 72) = (c = 72) := byte_eqI c 72
theorem byte_eq66 (c : UInt8) : ((c.toNat : Int) = 66) = (c = 66) := byte_eqI c 66
theorem byte_eq83 (c : UInt8) : ((c.toNat : Int) = 83) = (c = 83) := byte_eqI c 83
theorem byte_eq0 (c : UInt8) : ((c.toNat : Int) = 0) = (c = 0) := byte_eqI c 0
theorem byte_lt32 (c : UInt8) : ((c.toNat : Int) < 32) = (c < 32) := byte_ltI c 32
theorem byte_gt126 (c : UInt8) : (126 < (c.toNat : Int)) = (126 < c) := byte_ltI 126 c
/-- A specification over data x of any kind, told by how x is handed in. -/
noncomputable def specE {α β : Type} (enc : α → List V) (cond : α → Prop) (val : α → β) : List V → Option β := fun vs =>
  open Classical in if h : ∃ x, vs = enc x ∧ cond x then some (val h.choose) else none
theorem specE_eq {α β : Type} {enc : α → List V} {cond : α → Prop} {val : α → β} (hi : ∀ x y, enc x = enc y → x = y) (x : α) [Decidable (cond x)] : specE enc cond val (enc x) = if cond x then some (val x) else none := by
  unfold specE
  by_cases hc : cond x
  · have h : ∃ y, enc x = enc y ∧ cond y := ⟨x, rfl, hc⟩
    rw [dif_pos h, if_pos hc]
    rw [hi _ _ h.choose_spec.1.symm]
  · have h : ¬ ∃ y, enc x = enc y ∧ cond y := by
      rintro ⟨y, h1, h2⟩
      exact hc (hi _ _ h1 ▸ h2)
    rw [dif_neg h, if_neg hc]
theorem specE_some {α β : Type} {enc : α → List V} {cond : α → Prop} {val : α → β} {vs : List V} {r : β} (h : specE enc cond val vs = some r) : ∃ x, vs = enc x ∧ cond x ∧ val x = r := by
  unfold specE at h
  split at h
  · rename_i hx
    exact ⟨hx.choose, hx.choose_spec.1, hx.choose_spec.2, Option.some.inj h⟩
  · cases h
/-- Rows of one kind of data. -/
def encs {α : Type} (f : α → List S) (l : List α) : List (List S) := l.map f
section
variable {α : Type} {f : α → List S}
theorem encs_len {l : List α} : (encs f l).length = l.length := by simp [encs]
theorem encs_nil : encs f [] = [] := nr rfl
theorem encs_append {l r : List α} : encs f (l ++ r) = encs f l ++ encs f r := by simp [encs]
theorem encs_app {l r : List α} : encs f l ++ encs f r = encs f (l ++ r) := by simp [encs]
theorem encs_drop {l : List α} {n : Nat} : (encs f l).drop n = encs f (l.drop n) := by simp [encs]
theorem encs_take {l : List α} {n : Nat} : (encs f l).take n = encs f (l.take n) := by simp [encs]
theorem encs_getD [Inhabited α] {l : List α} {i : Int} (h : 0 ≤ i ∧ i < l.length) : (encs f l).getD i.toNat [] = f (l.getD i.toNat default) := by
  have : i.toNat < l.length := by omega
  simp [encs, this]
theorem encs_getN [Inhabited α] {l : List α} {i : Nat} (h : i < l.length) : (encs f l).getD i [] = f (l.getD i default) := by
  simp [encs, h]
theorem encs_getI [Inhabited α] {l : List α} {i : Nat} (h : (i : Int) < (l.length : Int)) : (encs f l).getD i [] = f (l.getD i default) := encs_getN (by omega)
theorem getD_mem [Inhabited α] {l : List α} {i : Nat} (h : i < l.length) : l.getD i default ∈ l := by
  have : l.getD i default = l[i] := by simp [h]
  rw [this]; exact List.getElem_mem h
theorem getD_take [Inhabited α] {l : List α} {i : Nat} (h : i < l.length) : l.take (i + 1) = l.take i ++ [l.getD i default] := by
  rw [List.take_succ_eq_append_getElem h]
  have : l.getD i default = l[i] := by simp [h]
  rw [this]
theorem encs_eq_nil {l : List α} : (encs f l = []) = (l = []) := by simp [encs]
end
def byteE (c : UInt8) : List S := [.int .u8 (c.toNat : Int)]
theorem asBytes_enc {s : List UInt8} {r : List (List S)} : asBytes (encs byteE s ++ r) = (asBytes r).map (s ++ ·) := by
  induction s with
  | nil => cases h : asBytes r <;> simp [encs, h]
  | cons c s ih =>
    have e : encs byteE (c :: s) ++ r = [.int .u8 (c.toNat : Int)] :: (encs byteE s ++ r) := rfl
    have hc := byte_ok c
    rw [e, asBytes_cons, if_pos hc, ih, byte_of]
    cases asBytes r <;> rfl
theorem asBytes_enc0 {s : List UInt8} : asBytes (encs byteE s) = some s := by
  have := asBytes_enc (s := s) (r := [])
  simpa [asBytes_nil] using this
def strE (s : List UInt8) : List S := [.str s]
def intE (k : IntKind) (n : Int) : List S := [.int k n]
theorem byteRows_encs {s : List UInt8} : byteRows s = encs (fun c => [.int .u8 (c.toNat : Int)]) s := nr rfl
theorem strE_eq {s : List UInt8} : strE s = [.str s] := nr rfl
theorem encs_inj {α : Type} {f : α → List S} (hf : ∀ x y, f x = f y → x = y) {a b : List α} : (encs f a = encs f b) = (a = b) := by
  apply propext
  unfold encs
  constructor
  · intro h
    induction a generalizing b with
    | nil => cases b with
      | nil => rfl
      | cons y b => simp at h
    | cons x a ih => cases b with
      | nil => simp at h
      | cons y b =>
        simp only [List.map_cons, List.cons.injEq] at h
        rw [hf _ _ h.1, ih h.2]
  · rintro rfl; rfl
theorem strE_inj {a b : List (List UInt8)} : (encs strE a = encs strE b) = (a = b) := encs_inj fun x y e => by simpa [strE] using e
attribute [go_sem] asBytes_enc asBytes_enc0 byte_eq34 byte_eq92 byte_eq120 byte_eq32 byte_eq10 byte_eq59 byte_eq123 byte_eq125 byte_eq47 byte_eq42 byte_eq72 byte_eq66 byte_eq83 byte_eq0 byte_lt32 byte_gt126 Int.toNat_natCast byte_lt byte_ge byte_of byte_of' splice_eq chunks_zero chunks_succ flat_rep flat_rep0 env_nil env_cons mem_nil mem_cons oo_some of_box of_row of_srow of_sbox of_bld cs_nil cs_cons vf_c vf_a vf_tf vf_b vf_j
  cf_str cf_int cf_bool cf_list cf_cref cf_fn cf_ptr cf_own cf_optr cf_seal rowEq_row rowEq_srow meets_eq pairs_nil apart_nil apart_nil2 apart_ite apart_ite2 encs_len encs_nil
  encs_drop encs_take encs_getI encs_getD encs_eq_nil strE_eq
  beq_self_eq_true Bool.or_true Bool.or_false Bool.and_false Bool.not_true Bool.not_false Bool.not_not tf_false ft_false Int.natCast_nonneg decide_eq_true_eq decide_eq_false_iff_not Bool.and_eq_true Bool.or_eq_false_iff Bool.not_eq_true' Bool.not_eq_false'
  Option.map_some Option.map_none Option.bind_some Option.getD_some Option.getD_none Option.isSome_some Option.isSome_none List.getElem?_cons_zero List.getElem?_cons_succ List.length_cons List.length_nil List.length_append List.drop_zero List.drop_succ_cons List.take_zero List.take_succ_cons List.drop_nil List.take_nil
  List.map_cons List.map_nil List.cons_append List.nil_append List.append_nil List.flatMap_cons List.flatMap_nil List.mem_cons List.getD_cons_zero List.getD_cons_succ List.not_mem_nil
  decide_true decide_false true_implies false_implies implies_true not_true_eq_false not_false_eq_true and_true true_and and_false false_and or_true true_or or_false false_or and_self eq_self ne_eq
attribute [go_sem ↓] locsK_eq pairs_cons
attribute [go_sem] callE_false pureE_false

/-! ### What closures capture -/
def capA (o : Option (List S)) (m : Nat → Option Obj) (l : Nat) (r : List V) : Option (List S × List (Nat × Obj)) := match o with
  | some ss => (capVs (upd m l (some (.sbox ss))) r).map fun p => (.cref ss :: p.1, (l, .sbox ss) :: p.2)
  | none => none
def capB (o : Option Obj) (m : Nat → Option Obj) (l : Nat) (r : List V) : Option (List S × List (Nat × Obj)) := match o with
  | some (.box cells) => capA (asS cells) m l r
  | some (.sbox ss) => (capVs m r).map fun p => (.cref ss :: p.1, p.2)
  | _ => none
theorem capA_congr {o o' : Option (List S)} {m : Nat → Option Obj} {l : Nat} {r : List V} (h : o = o') : capA o m l r = capA o' m l r := by rw [h]
theorem capB_congr {o o' : Option Obj} {m : Nat → Option Obj} {l : Nat} {r : List V} (h : o = o') : capB o m l r = capB o' m l r := by rw [h]
attribute [congr] capA_congr capB_congr
theorem cap_ptr {m : Nat → Option Obj} {l : Nat} {r : List V} : capVs m (.c (.ptr l 0) :: r) = capB (m l) m l r := by
  simp only [capVs, capB]
  cases m l with
  | none => rfl
  | some o => cases o with
    | box cells =>
      simp only [capA]
      cases asS cells with
      | none => rfl
      | some ss => simp only; cases capVs (upd m l (some (.sbox ss))) r <;> rfl
    | sbox ss => simp only; cases capVs m r <;> rfl
    | _ => rfl
theorem capB_box {cells : List C} {m : Nat → Option Obj} {l : Nat} {r : List V} : capB (some (.box cells)) m l r = capA (asS cells) m l r := nr rfl
theorem capB_sbox {ss : List S} {m : Nat → Option Obj} {l : Nat} {r : List V} : capB (some (.sbox ss)) m l r = (capVs m r).map fun p => (.cref ss :: p.1, p.2) := nr rfl
theorem capA_some {ss : List S} {m : Nat → Option Obj} {l : Nat} {r : List V} : capA (some ss) m l r = (capVs (upd m l (some (.sbox ss))) r).map fun p => (.cref ss :: p.1, (l, .sbox ss) :: p.2) := nr rfl
attribute [go_sem] cap_ptr capB_box capB_sbox capA_some

/-! ### Guarded operations that leave a trace in memory -/
theorem exT_memG {Γ : FuncId → Spec} {t : Tr} {K : AS → Tr → Prop} {env : Nat → V} {mem : Nat → Option Obj} {dst : Option Nat} {args : List O} {r : List Op1} {k : Ab.K} {s : Nat} {b : Bool} (_hk : memK k = true) :
    exT Γ (⟨dst, k, args, some (s, b)⟩ :: r) ⟨env, mem⟩ t K =
    gateB (env s) b (exO (run Γ (dst.getD 0) mem k (args.map (ev env))) fun v ups => exT Γ r ⟨putD env dst v, setAll mem ups⟩ (addT t (gate env (some (s, b))) (locsK k (args.map (ev env)) (dst.getD 0))) K)
      (exT Γ r ⟨putD env dst .undef, mem⟩ (addT t (gate env (some (s, b))) (locsK k (args.map (ev env)) (dst.getD 0))) K) := by
  rw [exT_cons (want_gate _ _), steps_cons]
  simp only [gateV_some, steps_nil]

/-! ### What operations touch -/
theorem to0  : touches .mv = false := nr rfl
theorem ud0  : usesD .mv = false := nr rfl
theorem to1  : touches .pick = false := nr rfl
theorem ud1  : usesD .pick = false := nr rfl
theorem to2  : touches .not = false := nr rfl
theorem ud2  : usesD .not = false := nr rfl
theorem to3 {x : BinOp} : touches (.bin x) = false := nr rfl
theorem ud3 {x : BinOp} : usesD (.bin x) = false := nr rfl
theorem to4 {x : Bool} {y : List Nat} : touches (.eqA x y) = false := nr rfl
theorem ud4 {x : Bool} {y : List Nat} : usesD (.eqA x y) = false := nr rfl
theorem to5 {x : Bool} : touches (.eqB x) = false := nr rfl
theorem ud5 {x : Bool} : usesD (.eqB x) = false := nr rfl
theorem to6 {x : Bool} : touches (.len x) = true := nr rfl
theorem ud6 {x : Bool} : usesD (.len x) = false := nr rfl
theorem to7 {x : Bool} : touches (.isNil x) = false := nr rfl
theorem ud7 {x : Bool} : usesD (.isNil x) = false := nr rfl
theorem to8 {x : IntKind} : touches (.conv x) = false := nr rfl
theorem ud8 {x : IntKind} : usesD (.conv x) = false := nr rfl
theorem to9  : touches .same = false := nr rfl
theorem ud9  : usesD .same = false := nr rfl
theorem to10  : touches .toStr = true := nr rfl
theorem ud10  : usesD .toStr = false := nr rfl
theorem to11  : touches .idx = false := nr rfl
theorem ud11  : usesD .idx = false := nr rfl
theorem to12 {x y : Nat} {z : Bool} : touches (.fld x y z) = false := nr rfl
theorem ud12 {x y : Nat} {z : Bool} : usesD (.fld x y z) = false := nr rfl
theorem to13 {x : Nat} : touches (.ext x) = false := nr rfl
theorem ud13 {x : Nat} : usesD (.ext x) = false := nr rfl
theorem to14 {x y : Bool} : touches (.slcS x y) = false := nr rfl
theorem ud14 {x y : Bool} : usesD (.slcS x y) = false := nr rfl
theorem to15 {k : Nat} {x y z : Bool} : touches (.slcL k x y z) = false := nr rfl
theorem ud15 {k : Nat} {x y z : Bool} : usesD (.slcL k x y z) = false := nr rfl
theorem to16 {x : Nat} : touches (.fadr x) = true := nr rfl
theorem ud16 {x : Nat} : usesD (.fadr x) = false := nr rfl
theorem to17 {x : Nat} : touches (.iadr x) = true := nr rfl
theorem ud17 {x : Nat} : usesD (.iadr x) = false := nr rfl
theorem to18 {x y : Nat} : touches (.iadrP x y) = false := nr rfl
theorem ud18 {x y : Nat} : usesD (.iadrP x y) = false := nr rfl
theorem to19 {x : Nat} {y : Bool} : touches (.load x y) = true := nr rfl
theorem ud19 {x : Nat} {y : Bool} : usesD (.load x y) = false := nr rfl
theorem to20 {x : List S} {y : List (Nat × Nat)} : touches (.build x y) = false := nr rfl
theorem ud20 {x : List S} {y : List (Nat × Nat)} : usesD (.build x y) = false := nr rfl
theorem to21  : touches .nilchk = false := nr rfl
theorem ud21  : usesD .nilchk = false := nr rfl
theorem to22 {x : Bool} : touches (.mnx x) = false := nr rfl
theorem ud22 {x : Bool} : usesD (.mnx x) = false := nr rfl
theorem to23 {x : List S} : touches (.alloc x) = true := nr rfl
theorem ud23 {x : List S} : usesD (.alloc x) = true := nr rfl
theorem to24 {x : TypeId × TypeId} : touches (.allocB x) = true := nr rfl
theorem ud24 {x : TypeId × TypeId} : usesD (.allocB x) = true := nr rfl
theorem to25 {x : Nat} : touches (.box x) = true := nr rfl
theorem ud25 {x : Nat} : usesD (.box x) = true := nr rfl
theorem to26 {x : Nat} {y : Bool} : touches (.store x y) = true := nr rfl
theorem ud26 {x : Nat} {y : Bool} : usesD (.store x y) = false := nr rfl
theorem to27 {x y : Nat} {z : List S} {u : List Nat} : touches (.bslice x y z u) = true := nr rfl
theorem ud27 {x y : Nat} {z : List S} {u : List Nat} : usesD (.bslice x y z u) = true := nr rfl
theorem to28 {x : Bool} {y z : Nat} : touches (.append x y z) = true := nr rfl
theorem ud28 {x : Bool} {y z : Nat} : usesD (.append x y z) = true := nr rfl
theorem to29 {x : FuncId} : touches (.mkfn x) = true := nr rfl
theorem ud29 {x : FuncId} : usesD (.mkfn x) = false := nr rfl
theorem to30 {x : FuncId} : touches (.call x) = true := nr rfl
theorem ud30 {x : FuncId} : usesD (.call x) = true := nr rfl
theorem to31  : touches .callv = true := nr rfl
theorem ud31  : usesD .callv = true := nr rfl
theorem to32 {x : FuncId} {y : TypeId × TypeId} : touches (.bldByte x y) = true := nr rfl
theorem ud32 {x : FuncId} {y : TypeId × TypeId} : usesD (.bldByte x y) = false := nr rfl
theorem to33 {x : FuncId} {y : TypeId × TypeId} : touches (.bldStr x y) = true := nr rfl
theorem ud33 {x : FuncId} {y : TypeId × TypeId} : usesD (.bldStr x y) = false := nr rfl
theorem to34 {x : FuncId} {y : TypeId × TypeId} : touches (.bldGet x y) = true := nr rfl
theorem ud34 {x : FuncId} {y : TypeId × TypeId} : usesD (.bldGet x y) = false := nr rfl
theorem apart_cons {x : Nat} {a b : List Nat} : apartL (x :: a) b = (!b.contains x && apartL a b) := by simp [apartL]
theorem cont_nil {x : Nat} : ([] : List Nat).contains x = false := nr rfl
theorem cont_cons {x y : Nat} {a : List Nat} : (y :: a).contains x = (x == y || a.contains x) := List.contains_cons
attribute [go_sem] apart_cons cont_nil cont_cons to0 ud0 to1 ud1 to2 ud2 to3 ud3 to4 ud4 to5 ud5 to6 ud6 to7 ud7 to8 ud8 to9 ud9 to10 ud10 to11 ud11 to12 ud12 to13 ud13 to14 ud14 to15 ud15 to16 ud16 to17 ud17 to18 ud18 to19 ud19 to20 ud20 to21 ud21 to22 ud22 to23 ud23 to24 ud24 to25 ud25 to26 ud26 to27 ud27 to28 ud28 to29 ud29 to30 ud30 to31 ud31 to32 ud32 to33 ud33 to34 ud34
attribute [go_sem] List.set_cons_zero List.set_cons_succ List.all_cons List.all_nil
theorem exO_callo {Γ : FuncId → Spec} {d : Nat} {mem : Nat → Option Obj} {f : FuncId} {G : List V → Option V} {vals : List V} {H : V → (Nat → Option Obj) → Prop} (hΓ : Γ f = plain G) :
    exO (run Γ d mem (.call f) vals) (fun v ups => H v (setAll mem ups)) = callO G (argVs mem vals) mem (vals.flatMap locV) H := by
  simp only [run, callR, callO, hΓ, plain]
  cases argVs mem vals with
  | none => rfl
  | some vs =>
    simp only
    cases G vs with
    | none => rfl
    | some v =>
      simp only [Option.map_some, resV, sealW]
      by_cases h1 : ((vals.flatMap locV).isEmpty || (Res.v v).refless) = true
      · rw [if_pos h1]
        rw [if_pos (show ((vals.flatMap locV).isEmpty || v.refless) = true from h1)]; rfl
      · rw [if_neg h1, List.append_nil]
        rw [if_neg (show ¬ ((vals.flatMap locV).isEmpty || v.refless) = true from h1)]; rfl
theorem exT_calloG {Γ : FuncId → Spec} {t : Tr} {K : AS → Tr → Prop} {env : Nat → V} {mem : Nat → Option Obj} {dst : Option Nat} {args : List O} {r : List Op1} {f : FuncId} {G : List V → Option V} {s : Nat} {b : Bool} (hΓ : Γ f = plain G) :
    exT Γ (⟨dst, .call f, args, some (s, b)⟩ :: r) ⟨env, mem⟩ t K =
    gateB (env s) b (callO G (argVs mem (args.map (ev env))) mem ((args.map (ev env)).flatMap locV) fun v m' => exT Γ r ⟨putD env dst v, m'⟩ (addT t (gate env (some (s, b))) (locsK (.call f) (args.map (ev env)) (dst.getD 0))) K)
      (exT Γ r ⟨putD env dst .undef, mem⟩ (addT t (gate env (some (s, b))) (locsK (.call f) (args.map (ev env)) (dst.getD 0))) K) := by
  rw [exT_cons (want_gate _ _), steps_cons]
  simp only [gateV_some, steps_nil]
  rw [exO_callo (H := fun v m' => exT Γ r ⟨putD env dst v, m'⟩ (addT t (gate env (some (s, b))) (locsK (.call f) (args.map (ev env)) (dst.getD 0))) K) hΓ]
attribute [go_sem ↓] exT_memG
attribute [go_sem] gateB_bool gateB_undef
end Go.Ab
