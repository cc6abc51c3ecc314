/- Plain laws that the reckoning of a condition leans on, in the same set. -/
import Derived.Test.YtkhplfdijadhbaaAb27
set_option linter.all false
namespace Go.Ab
open Go
theorem callE_false {G : List V → Option V} {vals : List V} {K : V → Prop} : callE G vals false K = K .undef := by
  simp [callE, ifV, bindV]
theorem pureE_false {ok : Prop} {v : V} {K : V → Prop} : pureE false ok v K = K .undef := by
  simp [pureE, ifV, bindV]
theorem splice_eq {α : Type} {xs ys : List α} {o : Nat} : splice xs o ys = xs.take o ++ ys ++ xs.drop (o + ys.length) := nr rfl
theorem chunks_zero {α : Type} {k : Nat} {xs : List α} : chunks k 0 xs = [] := nr rfl
theorem chunks_succ {α : Type} {k n : Nat} {xs : List α} : chunks k (n + 1) xs = xs.take k :: chunks k n (xs.drop k) := nr rfl
theorem flat_rep {α : Type} {n : Nat} {xs : List α} : (List.replicate (n + 1) xs).flatten = xs ++ (List.replicate n xs).flatten := by simp [List.replicate_succ]
theorem flat_rep0 {α : Type} {xs : List α} : (List.replicate 0 xs).flatten = [] := nr rfl
theorem env_nil {m : Nat → Option Obj} {ks : List Nat} {env : Nat → V} : EnvFit m ks env [] = True := nr rfl
theorem env_cons {m : Nat → Option Obj} {ks : List Nat} {env : Nat → V} {i : Nat} {v : V} {r : List (Nat × V)} : EnvFit m ks env ((i, v) :: r) = (VFit m ks (env i) v ∧ EnvFit m ks env r) := nr rfl
theorem mem_nil {m : Nat → Option Obj} {ks : List Nat} : MemFit m ks [] = True := nr rfl
theorem mem_cons {m : Nat → Option Obj} {ks : List Nat} {i : Nat} {o : Obj} {r : List (Nat × Obj)} : MemFit m ks ((i, o) :: r) = (OOFit m ks (m i) o ∧ MemFit m ks r) := nr rfl
theorem oo_some {m : Nat → Option Obj} {ks : List Nat} {o o' : Obj} : OOFit m ks (some o) o' = OFit m ks o o' := nr rfl
theorem of_box {m : Nat → Option Obj} {ks : List Nat} {xs ys : List C} : OFit m ks (.box xs) (.box ys) = CsFit m ks xs ys := nr rfl
theorem of_row {m : Nat → Option Obj} {ks : List Nat} {k k' : Nat} {a b : List (List S)} : OFit m ks (.row k a) (.row k' b) = (k = k' ∧ a = b) := nr rfl
theorem of_srow {m : Nat → Option Obj} {ks : List Nat} {k k' : Nat} {a b : List (List S)} : OFit m ks (.srow k a) (.srow k' b) = (k = k' ∧ a = b) := nr rfl
theorem of_sbox {m : Nat → Option Obj} {ks : List Nat} {a b : List S} : OFit m ks (.sbox a) (.sbox b) = (a = b) := nr rfl
theorem of_bld {m : Nat → Option Obj} {ks : List Nat} {T T' : TypeId × TypeId} {a b : List UInt8} : OFit m ks (.bld T a) (.bld T' b) = (T = T' ∧ a = b) := nr rfl
theorem cs_nil {m : Nat → Option Obj} {ks : List Nat} : CsFit m ks [] [] = True := nr rfl
theorem cs_cons {m : Nat → Option Obj} {ks : List Nat} {x y : C} {xs ys : List C} : CsFit m ks (x :: xs) (y :: ys) = (CFit m ks x y ∧ CsFit m ks xs ys) := nr rfl
theorem vf_c {m : Nat → Option Obj} {ks : List Nat} {x y : C} : VFit m ks (.c x) (.c y) = CFit m ks x y := by
  cases x with
  | s x => cases x <;> rfl
  | _ => rfl
theorem vf_a {m : Nat → Option Obj} {ks : List Nat} {x y : List C} : VFit m ks (.agg x) (.agg y) = CsFit m ks x y := nr rfl
theorem vf_tf {m : Nat → Option Obj} {ks : List Nat} : VFit m ks .tf .tf = True := nr rfl
theorem vf_b {m : Nat → Option Obj} {ks : List Nat} {b : Bool} : VFit m ks (.c (.s (.bool b))) .tf = True := nr rfl
theorem vf_j {m : Nat → Option Obj} {ks : List Nat} {x : V} : VFit m ks x .junk = True := by unfold VFit; split <;> simp_all
theorem cf_str {m : Nat → Option Obj} {ks : List Nat} {x y : List UInt8} : CFit m ks (.s (.str x)) (.s (.str y)) = (x = y) := by simp [CFit]
theorem cf_int {m : Nat → Option Obj} {ks : List Nat} {k : IntKind} {x y : Int} : CFit m ks (.s (.int k x)) (.s (.int k y)) = (x = y) := by simp [CFit]
theorem cf_bool {m : Nat → Option Obj} {ks : List Nat} {x y : Bool} : CFit m ks (.s (.bool x)) (.s (.bool y)) = (x = y) := by simp [CFit]
theorem cf_list {m : Nat → Option Obj} {ks : List Nat} {k k' : Nat} {x y : List (List S)} {f f' : Bool} : CFit m ks (.s (.list k x f)) (.s (.list k' y f')) = (k = k' ∧ x = y ∧ f = f') := by simp [CFit]
theorem cf_cref {m : Nat → Option Obj} {ks : List Nat} {x y : List S} : CFit m ks (.s (.cref x)) (.s (.cref y)) = (x = y) := by simp [CFit]
theorem cf_fn {m : Nat → Option Obj} {ks : List Nat} {f g : FuncId} {x y : List S} : CFit m ks (.s (.fn f x)) (.s (.fn g y)) = (f = g ∧ x = y) := by simp [CFit]
theorem cf_ptr {m : Nat → Option Obj} {ks : List Nat} {l l' o o' : Nat} : CFit m ks (.ptr l o) (.ptr l' o') = (l = l' ∧ o = o' ∧ l ∈ ks) := nr rfl
theorem cf_own {m : Nat → Option Obj} {ks : List Nat} {l l' o o' : Nat} : CFit m ks (.own l o) (.own l' o') = (l = l' ∧ o = o' ∧ l ∈ ks) := nr rfl
theorem cf_optr {m : Nat → Option Obj} {ks : List Nat} {l l' n n' i i' o o' : Nat} : CFit m ks (.optr l n i o) (.optr l' n' i' o') = (l = l' ∧ n = n' ∧ i = i' ∧ o = o' ∧ l ∈ ks) := nr rfl
def rowEq (o : Option Obj) (n k : Nat) (rows : List (List S)) : Prop := rowOf o = some (k, rows) ∧ n = rows.length
theorem cf_seal {m : Nat → Option Obj} {ks : List Nat} {l n k : Nat} {rows : List (List S)} {f : Bool} : CFit m ks (.own l n) (.s (.list k rows f)) = (f = false ∧ l ∉ ks ∧ rowEq (m l) n k rows) := nr rfl
theorem rowEq_row {n k k' : Nat} {rows rows' : List (List S)} : rowEq (some (.row k' rows')) n k rows = (k' = k ∧ rows' = rows ∧ n = rows.length) := by simp [rowEq, rowOf, and_assoc]
theorem rowEq_srow {n k k' : Nat} {rows rows' : List (List S)} : rowEq (some (.srow k' rows')) n k rows = (k' = k ∧ rows' = rows ∧ n = rows.length) := by simp [rowEq, rowOf, and_assoc]
theorem meets_eq {env : Nat → V} {m : Nat → Option Obj} {live : List (Nat × V)} {mem : List (Nat × Obj)} : Meets ⟨env, m⟩ live mem = (EnvFit m (mem.map (·.1)) env live ∧ MemFit m (mem.map (·.1)) mem) := nr rfl
theorem apart_nil {b : List Nat} : apartL [] b = true := nr rfl
theorem apart_nil2 {b : List Nat} : apartL b [] = true := by simp [apartL]
theorem apart_ite {c : Bool} {a b : List Nat} : apartL a (if c = true then b else []) = (!c || apartL a b) := by
  cases c <;> simp [apartL]
theorem apart_ite2 {c : Bool} {a b : List Nat} : apartL (if c = true then a else []) b = (!c || apartL a b) := by
  cases c <;> simp [apartL]
theorem pairs_nil {t : List (List Nat)} : pairsOk t [] = true := nr rfl
theorem pairs_cons {t : List (List Nat)} {i j : Nat} {r : List (Nat × Nat)} : pairsOk t ((i, j) :: r) = (apartL (t.getD i []) (t.getD j []) && pairsOk t r) := nr rfl
theorem locsK_eq {k : K} {vals : List V} {d : Nat} : locsK k vals d = (if touches k then vals.flatMap locV else []) ++ (if usesD k then [d] else []) := nr rfl
theorem tf_false : (true = false) = False := by simp
theorem ft_false : (false = true) = False := by simp
theorem byte_ok (c : UInt8) : (0 : Int) ≤ ((c.toNat : Nat) : Int) ∧ ((c.toNat : Nat) : Int) < 256 := by have := c.toNat_lt; omega
theorem byte_lt (c : UInt8) : (((c.toNat : Nat) : Int) < 256) = True := by have := c.toNat_lt; simp; omega
theorem byte_ge (c : UInt8) : ((0 : Int) ≤ ((c.toNat : Nat) : Int)) = True := by simp
theorem byte_of (c : UInt8) : UInt8.ofNat ((c.toNat : Int)).toNat = c := by simp
theorem byte_of' (c : UInt8) : UInt8.ofNat c.toNat = c := by simp
theorem byte_ex {c : Int} (h : 0 ≤ c ∧ c < 256) : ∃ x : UInt8, c = x.toNat := ⟨UInt8.ofNat c.toNat, by
  have : (UInt8.ofNat c.toNat).toNat = c.toNat := by rw [UInt8.toNat_ofNat', Nat.mod_eq_of_lt (by omega)]
  rw [this]; omega⟩
theorem byte_forall {P : UInt8 → Prop} [DecidablePred P] (h : ∀ n : Fin 256, P (UInt8.ofNat n.val)) (x : UInt8) : P x := by
  have := h ⟨x.toNat, x.toNat_lt⟩
  simpa using this
theorem byte_ind {motive : UInt8 → Prop} (h : ∀ n : Fin 256, motive (UInt8.ofNat n.val)) (x : UInt8) : motive x := by
  have := h ⟨x.toNat, x.toNat_lt⟩
  simpa using this
theorem byte_eqI (c d : UInt8) : ((c.toNat : Int) = (d.toNat : Int)) = (c = d) := by
  apply propext
  constructor
  · intro h; exact UInt8.toNat_inj.1 (by omega)
  · rintro rfl; rfl
theorem byte_ltI (c d : UInt8) : ((c.toNat : Int) < (d.toNat : Int)) = (c < d) := by
  apply propext; rw [UInt8.lt_iff_toNat_lt]; omega
theorem byte_eq34 (c : UInt8) : ((c.toNat : Int) = 34) = (c = 34) := byte_eqI c 34
theorem byte_eq92 (c : UInt8) : ((c.toNat : Int) = 92) = (c = 92) := byte_eqI c 92
theorem byte_eq120 (c : UInt8) : ((c.toNat : Int) = 120) = (c = 120) := byte_eqI c 120
theorem byte_eq32 (c : UInt8) : ((c.toNat : Int) = 32) = (c = 32) := byte_eqI c 32
theorem byte_eq10 (c : UInt8) : ((c.toNat : Int) = 10) = (c = 10) := byte_eqI c 10
theorem byte_eq59 (c : UInt8) : ((c.toNat : Int) = 59) = (c = 59) := byte_eqI c 59
theorem byte_eq123 (c : UInt8) : ((c.toNat : Int) = 123) = (c = 123) := byte_eqI c 123
theorem byte_eq125 (c : UInt8) : ((c.toNat : Int) = 125) = (c = 125) := byte_eqI c 125
theorem byte_eq47 (c : UInt8) : ((c.toNat : Int) = 47) = (c = 47) := byte_eqI c 47
theorem byte_eq42 (c : UInt8) : ((c.toNat : Int) = 42) = (c = 42) := byte_eqI c 42
theorem byte_eq72 (c : UInt8) : ((c.toNat : Int) = 72) = (c = 72) := byte_eqI c 72
theorem byte_eq66 (c : UInt8) : ((c.toNat : Int) = 66) = (c = 66) := byte_eqI c 66
theorem byte_eq83 (c : UInt8) : ((c.toNat : Int) = 83) = (c = 83) := byte_eqI c 83
theorem byte_eq0 (c : UInt8) : ((c.toNat : Int) = 0) = (c = 0) := byte_eqI c 0
theorem byte_lt32 (c : UInt8) : ((c.toNat : Int) < 32) = (c < 32) := byte_ltI c 32
theorem byte_gt126 (c : UInt8) : (126 < (c.toNat : Int)) = (126 < c) := byte_ltI 126 c
/-- A specification over data x of any kind, told by how x is handed in. -/
noncomputable def specE {α β : Type} (enc : α → List V) (cond : α → Prop) (val : α → β) : List V → Option β := fun vs =>
  open Classical in if h : ∃ x, vs = enc x ∧ cond x then some (val h.choose) else none
theorem specE_eq {α β : Type} {enc : α → List V} {cond : α → Prop} {val : α → β} (hi : ∀ x y, enc x = enc y → x = y) (x : α) [Decidable (cond x)] : specE enc cond val (enc x) = if cond x then some (val x) else none := by
  unfold specE
  by_cases hc : cond x
  · have h : ∃ y, enc x = enc y ∧ cond y := ⟨x, rfl, hc⟩
    rw [dif_pos h, if_pos hc]
    rw [hi _ _ h.choose_spec.1.symm]
  · have h : ¬ ∃ y, enc x = enc y ∧ cond y := by
      rintro ⟨y, h1, h2⟩
      exact hc (hi _ _ h1 ▸ h2)
    rw [dif_neg h, if_neg hc]
theorem specE_some {α β : Type} {enc : α → List V} {cond : α → Prop} {val : α → β} {vs : List V} {r : β} (h : specE enc cond val vs = some r) : ∃ x, vs = enc x ∧ cond x ∧ val x = r := by
  unfold specE at h
  split at h
  · rename_i hx
    exact ⟨hx.choose, hx.choose_spec.1, hx.choose_spec.2, Option.some.inj h⟩
  · cases h
/-- Rows of one kind of data. -/
def encs {α : Type} (f : α → List S) (l : List α) : List (List S) := l.map f
section
variable {α : Type} {f : α → List S}
theorem encs_len {l : List α} : (encs f l).length = l.length := by simp [encs]
theorem encs_nil : encs f [] = [] := nr rfl
theorem encs_append {l r : List α} : encs f (l ++ r) = encs f l ++ encs f r := by simp [encs]
theorem encs_app {l r : List α} : encs f l ++ encs f r = encs f (l ++ r) := by simp [encs]
theorem encs_drop {l : List α} {n : Nat} : (encs f l).drop n = encs f (l.drop n) := by simp [encs]
theorem encs_take {l : List α} {n : Nat} : (encs f l).take n = encs f (l.take n) := by simp [encs]
theorem encs_getD [Inhabited α] {l : List α} {i : Int} (h : 0 ≤ i ∧ i < l.length) : (encs f l).getD i.toNat [] = f (l.getD i.toNat default) := by
  have : i.toNat < l.length := by omega
  simp [encs, this]
theorem encs_getN [Inhabited α] {l : List α} {i : Nat} (h : i < l.length) : (encs f l).getD i [] = f (l.getD i default) := by
  simp [encs, h]
theorem encs_getI [Inhabited α] {l : List α} {i : Nat} (h : (i : Int) < (l.length : Int)) : (encs f l).getD i [] = f (l.getD i default) := encs_getN (by omega)
theorem getD_mem [Inhabited α] {l : List α} {i : Nat} (h : i < l.length) : l.getD i default ∈ l := by
  have : l.getD i default = l[i] := by simp [h]
  rw [this]; exact List.getElem_mem h
theorem getD_take [Inhabited α] {l : List α} {i : Nat} (h : i < l.length) : l.take (i + 1) = l.take i ++ [l.getD i default] := by
  rw [List.take_succ_eq_append_getElem h]
  have : l.getD i default = l[i] := by simp [h]
  rw [this]
theorem encs_eq_nil {l : List α} : (encs f l = []) = (l = []) := by simp [encs]
end
def byteE (c : UInt8) : List S := [.int .u8 (c.toNat : Int)]
theorem asBytes_enc {s : List UInt8} {r : List (List S)} : asBytes (encs byteE s ++ r) = (asBytes r).map (s ++ ·) := by
  induction s with
  | nil => cases h : asBytes r <;> simp [encs, h]
  | cons c s ih =>
    have e : encs byteE (c :: s) ++ r = [.int .u8 (c.toNat : Int)] :: (encs byteE s ++ r) := rfl
    have hc := byte_ok c
    rw [e, asBytes_cons, if_pos hc, ih, byte_of]
    cases asBytes r <;> rfl
theorem asBytes_enc0 {s : List UInt8} : asBytes (encs byteE s) = some s := by
  have := asBytes_enc (s := s) (r := [])
  simpa [asBytes_nil] using this
def strE (s : List UInt8) : List S := [.str s]
def intE (k : IntKind) (n : Int) : List S := [.int k n]
theorem byteRows_encs {s : List UInt8} : byteRows s = encs (fun c => [.int .u8 (c.toNat : Int)]) s := nr rfl
theorem strE_eq {s : List UInt8} : strE s = [.str s] := nr rfl
theorem encs_inj {α : Type} {f : α → List S} (hf : ∀ x y, f x = f y → x = y) {a b : List α} : (encs f a = encs f b) = (a = b) := by
  apply propext
  unfold encs
  constructor
  · intro h
    induction a generalizing b with
    | nil => cases b with
      | nil => rfl
      | cons y b => simp at h
    | cons x a ih => cases b with
      | nil => simp at h
      | cons y b =>
        simp only [List.map_cons, List.cons.injEq] at h
        rw [hf _ _ h.1, ih h.2]
  · rintro rfl; rfl
theorem strE_inj {a b : List (List UInt8)} : (encs strE a = encs strE b) = (a = b) := encs_inj fun x y e => by simpa [strE] using e
attribute [go_sem] asBytes_enc asBytes_enc0 byte_eq34 byte_eq92 byte_eq120 byte_eq32 byte_eq10 byte_eq59 byte_eq123 byte_eq125 byte_eq47 byte_eq42 byte_eq72 byte_eq66 byte_eq83 byte_eq0 byte_lt32 byte_gt126 Int.toNat_natCast byte_lt byte_ge byte_of byte_of' splice_eq chunks_zero chunks_succ flat_rep flat_rep0 env_nil env_cons mem_nil mem_cons oo_some of_box of_row of_srow of_sbox of_bld cs_nil cs_cons vf_c vf_a vf_tf vf_b vf_j
  cf_str cf_int cf_bool cf_list cf_cref cf_fn cf_ptr cf_own cf_optr cf_seal rowEq_row rowEq_srow meets_eq pairs_nil apart_nil apart_nil2 apart_ite apart_ite2 encs_len encs_nil
  encs_drop encs_take encs_getI encs_getD encs_eq_nil strE_eq
  beq_self_eq_true Bool.or_true Bool.or_false Bool.and_false Bool.not_true Bool.not_false Bool.not_not tf_false ft_false Int.natCast_nonneg decide_eq_true_eq decide_eq_false_iff_not Bool.and_eq_true Bool.or_eq_false_iff Bool.not_eq_true' Bool.not_eq_false'
  Option.map_some Option.map_none Option.bind_some Option.getD_some Option.getD_none Option.isSome_some Option.isSome_none List.getElem?_cons_zero List.getElem?_cons_succ List.length_cons List.length_nil List.length_append List.drop_zero List.drop_succ_cons List.take_zero List.take_succ_cons List.drop_nil List.take_nil
  List.map_cons List.map_nil List.cons_append List.nil_append List.append_nil List.flatMap_cons List.flatMap_nil List.mem_cons List.getD_cons_zero List.getD_cons_succ List.not_mem_nil
  decide_true decide_false true_implies false_implies implies_true not_true_eq_false not_false_eq_true and_true true_and and_false false_and or_true true_or or_false false_or and_self eq_self ne_eq
attribute [go_sem ↓] locsK_eq pairs_cons
attribute [go_sem] callE_false pureE_false
end Go.Ab
