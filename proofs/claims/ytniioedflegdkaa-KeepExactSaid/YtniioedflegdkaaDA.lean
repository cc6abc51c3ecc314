/- D0 D1 D2 D3 -/
import Derived.Test.YtniioedflegdkaaW1
set_option linter.all false
/- Plain facts on lists. -/
namespace Go.Fs
/-- The first place that meets a test; else -1. -/
def findI {α : Type} (p : α → Bool) (l : List α) : Int := match l.findIdx? p with
  | some i => (i : Int)
  | none => -1
theorem findI_end {α : Type} {p : α → Bool} {l : List α} (h : ∀ a ∈ l, p a = false) : findI p l = -1 := by
  have : l.findIdx? p = none := by rw [List.findIdx?_eq_none_iff]; exact h
  unfold findI; rw [this]
theorem take_getD {α : Type} [Inhabited α] {l : List α} {i : Nat} (h : i < l.length) : l.take (i + 1) = l.take i ++ [l.getD i default] := by
  rw [List.take_succ_eq_append_getElem h]; simp [h]
theorem drop_getD {α : Type} [Inhabited α] {l : List α} {i : Nat} (h : i < l.length) : l.drop i = l.getD i default :: l.drop (i + 1) := by
  rw [List.drop_eq_getElem_cons h]; simp [h]
theorem mem_getD {α : Type} [Inhabited α] {l : List α} {i : Nat} (h : i < l.length) : l.getD i default ∈ l := by
  rw [List.getD_eq_getElem?_getD, List.getElem?_eq_getElem h]; exact List.getElem_mem h
theorem findI_hit {α : Type} [Inhabited α] {p : α → Bool} {l : List α} {i : Nat} (hi : i < l.length) (h : ∀ a ∈ l.take i, p a = false) (hp : p (l.getD i default) = true) : findI p l = i := by
  have e : l = l.take i ++ l.getD i default :: l.drop (i + 1) := by rw [← drop_getD hi, List.take_append_drop]
  have h0 : (l.take i).findIdx? p = none := by rw [List.findIdx?_eq_none_iff]; exact h
  have : l.findIdx? p = some i := by
    rw [e, List.findIdx?_append, h0, List.findIdx?_cons, hp]
    simp; omega
  unfold findI; rw [this]
theorem findI_ge {α : Type} {p : α → Bool} {l : List α} : decide (0 ≤ findI p l) = l.any p := by
  unfold findI
  cases h : l.findIdx? p with
  | none =>
    rw [List.findIdx?_eq_none_iff] at h
    have : l.any p = false := by rw [List.any_eq_false]; intro a ha; simp [h a ha]
    rw [this]; rfl
  | some i =>
    have : l.any p = true := by
      rw [List.findIdx?_eq_some_iff_getElem] at h
      obtain ⟨h1, h2, _⟩ := h
      exact List.any_eq_true.2 ⟨l[i], List.getElem_mem h1, h2⟩
    rw [this]; exact decide_eq_true (Int.natCast_nonneg i)
theorem take_all {α : Type} [Inhabited α] {Q : α → Prop} {l : List α} {i : Nat} (hi : i < l.length) (h : ∀ a ∈ l.take i, Q a) (hq : Q (l.getD i default)) : ∀ a ∈ l.take (i + 1), Q a := by
  intro a ha
  rw [take_getD hi] at ha
  rcases List.mem_append.1 ha with h1 | h1
  · exact h a h1
  · simp at h1; rw [h1]; exact hq
theorem any_not_all {α : Type} {p : α → Bool} {l : List α} : (!l.any fun a => !p a) = l.all p := by
  induction l with
  | nil => rfl
  | cons a l ih => simp only [List.any_cons, List.all_cons, Bool.not_or, Bool.not_not, ih]
end Go.Fs

/- The disk of the document, as plain data. No program in sight. -/
namespace Go.Fs
structure Wr where
  loc : Int
  data : Bs
  deriving DecidableEq
structure Disk where
  sectors : List Bs
  cache : List Wr
  deriving DecidableEq
structure DOp where
  sync : Bool
  w : Wr
  deriving DecidableEq

def mayD (n : Nat) (w : Wr) : Bool := decide (0 ≤ w.loc) && decide (w.loc < n) && decide (w.data.length = 32)
def rightD (d : Disk) : Bool := decide (1 ≤ d.sectors.length) && decide (d.sectors.length ≤ 300) && decide (d.cache.length ≤ 700) &&
  d.sectors.all (fun s => decide (s.length = 32)) && d.cache.all (mayD d.sectors.length)
/-- What the last write says; else the sector. -/
def lastW (at_ : Int) : List Wr → Bs → Bs
  | [], s => s
  | w :: r, s => lastW at_ r (if w.loc = at_ then w.data else s)
def getS (d : Disk) (at_ : Nat) : Bs := lastW at_ d.cache (d.sectors.getD at_ [])
def readD (d : Disk) (at_ : Int) : Bs × Int := if rightD d = true ∧ 0 ≤ at_ ∧ at_ < d.sectors.length then (getS d at_.toNat, 0) else ([], 1)
def putW (d : Disk) (w : Wr) : Disk × Int := if rightD d = true ∧ mayD d.sectors.length w = true then (if 700 ≤ d.cache.length then (d, 10) else (⟨d.sectors, d.cache ++ [w]⟩, 0)) else (d, 1)
/-- Writes, done in their order. -/
def applyW (ss : List Bs) (ws : List Wr) : List Bs := ws.foldl (fun s w => s.set w.loc.toNat w.data) ss
/-- Those whose places (from i on) stand in keep. -/
def keptW (keep : List Int) : Nat → List Wr → List Wr
  | _, [] => []
  | i, w :: r => if keep.contains (i : Int) then w :: keptW keep (i + 1) r else keptW keep (i + 1) r
def syncD (d : Disk) : Disk := if rightD d = true then ⟨applyW d.sectors d.cache, []⟩ else d
def crashD (d : Disk) (keep : List Int) : Disk := if rightD d = true then ⟨applyW d.sectors (keptW keep 0 d.cache), []⟩ else d
def stepD (d : Disk) (o : DOp) : Disk := if o.sync = true then syncD d else (putW d o.w).1
def runD (d : Disk) (l : List DOp) : Disk := l.foldl stepD d
def newD (n : Nat) : Disk := ⟨List.replicate n (List.replicate 32 0), []⟩

/-! ### Plain facts -/
theorem applyW_nil (ss : List Bs) : applyW ss [] = ss := rfl
theorem applyW_cons (ss : List Bs) (w : Wr) (ws : List Wr) : applyW ss (w :: ws) = applyW (ss.set w.loc.toNat w.data) ws := rfl
theorem applyW_append (ss : List Bs) (a b : List Wr) : applyW ss (a ++ b) = applyW (applyW ss a) b := by simp [applyW]
theorem applyW_len (ws : List Wr) : ∀ ss, (applyW ss ws).length = ss.length := by
  induction ws with
  | nil => intro ss; rfl
  | cons w ws ih => intro ss; rw [applyW_cons, ih]; simp
theorem lastW_append (at_ : Int) (a b : List Wr) : ∀ s, lastW at_ (a ++ b) s = lastW at_ b (lastW at_ a s) := by
  induction a with
  | nil => intro s; rfl
  | cons w a ih => intro s; simp only [List.cons_append, lastW]; rw [ih]
/-- Sector by sector. -/
theorem applyW_get (ws : List Wr) : ∀ (ss : List Bs) (i : Nat), (∀ w ∈ ws, 0 ≤ w.loc ∧ w.loc < ss.length) → i < ss.length → (applyW ss ws).getD i [] = lastW i ws (ss.getD i []) := by
  induction ws with
  | nil => intro ss i _ _; rfl
  | cons w ws ih =>
    intro ss i hw hi
    rw [applyW_cons, ih _ _ (fun v hv => by simpa using hw v (List.mem_cons_of_mem _ hv)) (by simpa using hi)]
    simp only [lastW]
    congr 1
    have h := hw w (by simp)
    by_cases e : w.loc = i
    · have : w.loc.toNat = i := by omega
      simp [hi, e]
    · have : w.loc.toNat ≠ i := by omega
      simp [this, e]
theorem right_iff (d : Disk) : rightD d = true ↔ 1 ≤ d.sectors.length ∧ d.sectors.length ≤ 300 ∧ d.cache.length ≤ 700 ∧ (∀ s ∈ d.sectors, s.length = 32) ∧ ∀ w ∈ d.cache, mayD d.sectors.length w = true := by
  simp [rightD, and_assoc]
theorem may_iff (n : Nat) (w : Wr) : mayD n w = true ↔ 0 ≤ w.loc ∧ w.loc < n ∧ w.data.length = 32 := by simp [mayD, and_assoc]

theorem applyW_all (ws : List Wr) : ∀ (ss : List Bs), (∀ s ∈ ss, s.length = 32) → (∀ w ∈ ws, w.data.length = 32) → ∀ s ∈ applyW ss ws, s.length = 32 := by
  induction ws with
  | nil => intro ss h _; exact h
  | cons w ws ih =>
    intro ss h hw
    rw [applyW_cons]
    refine ih _ (fun s hs => ?_) (fun v hv => hw v (List.mem_cons_of_mem _ hv))
    rcases List.mem_or_eq_of_mem_set hs with h1 | h1
    · exact h s h1
    · rw [h1]; exact hw w (by simp)
theorem kept_sub (keep : List Int) (ws : List Wr) : ∀ i, ∀ w ∈ keptW keep i ws, w ∈ ws := by
  induction ws with
  | nil => intro i w h; simp [keptW] at h
  | cons v ws ih =>
    intro i w h
    simp only [keptW] at h
    split at h
    · rcases List.mem_cons.1 h with h | h
      · exact h ▸ List.mem_cons_self
      · exact List.mem_cons_of_mem _ (ih _ _ h)
    · exact List.mem_cons_of_mem _ (ih _ _ h)

theorem right_apply {d : Disk} (h : rightD d = true) {ws : List Wr} (hw : ∀ w ∈ ws, w ∈ d.cache) : rightD ⟨applyW d.sectors ws, []⟩ = true := by
  rw [right_iff] at h ⊢
  obtain ⟨h1, h2, h3, h4, h5⟩ := h
  refine ⟨by simpa [applyW_len] using h1, by simpa [applyW_len] using h2, by simp, applyW_all _ _ h4 fun w hm => ((may_iff _ _).1 (h5 w (hw w hm))).2.2, by simp⟩
theorem right_sync {d : Disk} (h : rightD d = true) : rightD (syncD d) = true := by
  unfold syncD; rw [if_pos h]; exact right_apply h fun _ h => h
theorem right_crash {d : Disk} (h : rightD d = true) (keep : List Int) : rightD (crashD d keep) = true := by
  unfold crashD; rw [if_pos h]; exact right_apply h (kept_sub _ _ _)
theorem right_put {d : Disk} (h : rightD d = true) (w : Wr) : rightD (putW d w).1 = true := by
  unfold putW
  split
  · rename_i hc
    split
    · exact h
    · rw [right_iff] at h ⊢
      obtain ⟨h1, h2, h3, h4, h5⟩ := h
      refine ⟨h1, h2, by simp; omega, h4, fun v hv => ?_⟩
      rcases List.mem_append.1 hv with hv | hv
      · exact h5 v hv
      · simp at hv; rw [hv]; exact hc.2
  · exact h
theorem right_step {d : Disk} (h : rightD d = true) (o : DOp) : rightD (stepD d o) = true := by
  unfold stepD; split
  · exact right_sync h
  · exact right_put h _
theorem wrong_sync {d : Disk} (h : rightD d = false) : syncD d = d := by unfold syncD; simp [h]
theorem wrong_crash {d : Disk} (h : rightD d = false) (keep : List Int) : crashD d keep = d := by unfold crashD; simp [h]
theorem wrong_put {d : Disk} (h : rightD d = false) (w : Wr) : putW d w = (d, 1) := by unfold putW; simp [h]
theorem wrong_step {d : Disk} (h : rightD d = false) (o : DOp) : stepD d o = d := by
  unfold stepD; split
  · exact wrong_sync h
  · rw [wrong_put h]
theorem wrong_run {d : Disk} (h : rightD d = false) (l : List DOp) : runD d l = d := by
  unfold runD
  induction l with
  | nil => rfl
  | cons o l ih => rw [List.foldl_cons, wrong_step h, ih]
theorem right_run {d : Disk} (h : rightD d = true) (l : List DOp) : rightD (runD d l) = true := by
  unfold runD
  induction l generalizing d with
  | nil => exact h
  | cons o l ih => exact ih (right_step h o)
theorem run_append (d : Disk) (a b : List DOp) : runD d (a ++ b) = runD (runD d a) b := by simp [runD]

/-- A sync, sector by sector. -/
theorem sync_get {d : Disk} (h : rightD d = true) : (syncD d).sectors = (List.range d.sectors.length).map (getS d) := by
  obtain ⟨h1, h2, h3, h4, h5⟩ := (right_iff d).1 h
  unfold syncD; rw [if_pos h]
  refine List.ext_getElem (by simp [applyW_len]) fun i hi hj => ?_
  have hi' : i < d.sectors.length := by simpa [applyW_len] using hi
  have := applyW_get d.cache d.sectors i (fun w hw => ⟨((may_iff _ _).1 (h5 w hw)).1, ((may_iff _ _).1 (h5 w hw)).2.1⟩) hi'
  simp only [List.getElem_map, List.getElem_range, getS]
  rw [← this]
  simp [hi]
theorem getS_sync {d : Disk} (h : rightD d = true) {i : Nat} (hi : i < d.sectors.length) : getS (syncD d) i = getS d i := by
  have := sync_get h
  have hc : (syncD d).cache = [] := by unfold syncD; rw [if_pos h]
  rw [getS, hc, this]
  simp [lastW, hi]
theorem crash_nil {d : Disk} (h : rightD d = true) (hc : d.cache = []) (keep : List Int) : crashD d keep = d := by
  unfold crashD; rw [if_pos h, hc]
  obtain ⟨ss, c⟩ := d
  simp at hc; subst hc
  rfl
theorem kept_all (ws : List Wr) (keep : List Int) : ∀ (i : Nat), (∀ j : Nat, i ≤ j → j < i + ws.length → keep.contains (j : Int) = true) → keptW keep i ws = ws := by
  induction ws with
  | nil => intro i _; rfl
  | cons w ws ih =>
    intro i h
    simp only [keptW, h i (Nat.le_refl _) (by simp), if_true]
    rw [ih (i + 1) fun j h1 h2 => h j (by omega) (by simp; omega)]
theorem lastW_mem (at_ : Int) (ws : List Wr) : ∀ s, lastW at_ ws s = s ∨ ∃ w ∈ ws, w.loc = at_ ∧ w.data = lastW at_ ws s := by
  induction ws with
  | nil => intro s; exact .inl rfl
  | cons w ws ih =>
    intro s
    simp only [lastW]
    rcases ih (if w.loc = at_ then w.data else s) with h | ⟨v, hv, h1, h2⟩
    · by_cases e : w.loc = at_
      · rw [if_pos e] at h ⊢
        exact .inr ⟨w, by simp, e, h.symm⟩
      · rw [if_neg e] at h ⊢
        exact .inl h
    · exact .inr ⟨v, List.mem_cons_of_mem _ hv, h1, h2⟩
theorem new_right {n : Nat} (h1 : 1 ≤ n) (h2 : n ≤ 300) : rightD (newD n) = true := by
  rw [right_iff]
  exact ⟨by simpa [newD] using h1, by simpa [newD] using h2, by simp [newD], fun s hs => by simp [newD] at hs; rw [hs.2]; simp, by simp [newD]⟩
end Go.Fs

/- More plain facts of the disk. -/
namespace Go.Fs
instance : Inhabited Wr := ⟨⟨0, []⟩⟩
instance : Inhabited DOp := ⟨⟨false, ⟨0, []⟩⟩⟩
theorem disk_eta (d : Disk) : Disk.mk d.sectors d.cache = d := rfl
theorem wr_eta (w : Wr) : Wr.mk w.loc w.data = w := rfl
theorem op_eta (o : DOp) : DOp.mk o.sync o.w = o := rfl
theorem lastW_none {a : Int} {cs : List Wr} (h : ∀ w ∈ cs, w.loc ≠ a) : ∀ s, lastW a cs s = s := by
  induction cs with
  | nil => intro s; rfl
  | cons w cs ih =>
    intro s
    simp only [lastW, if_neg (h w (by simp))]
    exact ih (fun v hv => h v (List.mem_cons_of_mem _ hv)) s
theorem lastW_hit {a : Int} {cs : List Wr} {i : Nat} (hi : i < cs.length) (h : ∀ w ∈ cs.drop (i + 1), w.loc ≠ a) (ha : (cs.getD i default).loc = a) (s : Bs) : lastW a cs s = (cs.getD i default).data := by
  have e : cs = cs.take i ++ cs.getD i default :: cs.drop (i + 1) := by rw [← drop_getD hi, List.take_append_drop]
  conv => lhs; rw [e]
  rw [lastW_append, lastW, if_pos ha, lastW_none h]
theorem drop_all {α : Type} [Inhabited α] {Q : α → Prop} {l : List α} {i : Nat} (hi : i < l.length) (h : ∀ a ∈ l.drop (i + 1), Q a) (hq : Q (l.getD i default)) : ∀ a ∈ l.drop i, Q a := by
  intro a ha
  rw [drop_getD hi] at ha
  rcases List.mem_cons.1 ha with h1 | h1
  · rw [h1]; exact hq
  · exact h a h1
/-- Those whose places meet a test. -/
def keptP (p : Nat → Bool) : Nat → List Wr → List Wr
  | _, [] => []
  | i, w :: r => if p i = true then w :: keptP p (i + 1) r else keptP p (i + 1) r
theorem keptP_append (p : Nat → Bool) (b : List Wr) : ∀ (a : List Wr) (i : Nat), keptP p i (a ++ b) = keptP p i a ++ keptP p (i + a.length) b
  | [], i => by simp [keptP]
  | w :: a, i => by
    simp only [List.cons_append, keptP, keptP_append p b a (i + 1), List.length_cons]
    have : i + 1 + a.length = i + (a.length + 1) := by omega
    rw [this]; split <;> rfl
theorem keptP_take (p : Nat → Bool) (ws : List Wr) (i : Nat) (h : i < ws.length) : keptP p 0 (ws.take (i + 1)) = keptP p 0 (ws.take i) ++ (if p i = true then [ws.getD i default] else []) := by
  rw [take_getD h, keptP_append]
  simp only [keptP, List.length_take, Nat.zero_add, Nat.min_eq_left (Nat.le_of_lt h)]
theorem keptP_all (ws : List Wr) : ∀ i, keptP (fun _ => true) i ws = ws := by
  induction ws with
  | nil => intro i; rfl
  | cons w ws ih => intro i; simp [keptP, ih]
theorem keptP_keep (keep : List Int) (ws : List Wr) : ∀ i, keptP (fun i => keep.contains (i : Int)) i ws = keptW keep i ws := by
  induction ws with
  | nil => intro i; rfl
  | cons w ws ih => intro i; simp only [keptP, keptW, ih]
def doneD (p : Nat → Bool) (d : Disk) : Disk := if rightD d = true then ⟨applyW d.sectors (keptP p 0 d.cache), []⟩ else d
theorem done_sync (d : Disk) : doneD (fun _ => true) d = syncD d := by unfold doneD syncD; rw [keptP_all]
theorem done_crash (d : Disk) (keep : List Int) : doneD (fun i => keep.contains (i : Int)) d = crashD d keep := by unfold doneD crashD; rw [keptP_keep]
theorem step_len (d : Disk) (o : DOp) : (stepD d o).sectors.length = d.sectors.length ∧ (stepD d o).cache.length ≤ max d.cache.length 700 := by
  unfold stepD
  split
  · unfold syncD; split
    · simp [applyW_len]
    · exact ⟨rfl, by omega⟩
  · unfold putW; split
    · split
      · exact ⟨rfl, by simp only; omega⟩
      · refine ⟨rfl, ?_⟩; simp; omega
    · exact ⟨rfl, by simp only; omega⟩
theorem run_len (l : List DOp) : ∀ d, (runD d l).sectors.length = d.sectors.length ∧ (runD d l).cache.length ≤ max d.cache.length 700 := by
  induction l with
  | nil => intro d; exact ⟨rfl, by simp [runD]; omega⟩
  | cons o l ih =>
    intro d
    have h1 := ih (stepD d o)
    have h2 := step_len d o
    have : runD d (o :: l) = runD (stepD d o) l := rfl
    rw [this]
    exact ⟨by omega, by omega⟩
theorem run_snoc {d : Disk} {l : List DOp} {i : Nat} (h : i < l.length) : runD d (l.take (i + 1)) = stepD (runD d (l.take i)) (l.getD i default) := by
  rw [take_getD h, run_append]; rfl
theorem all_no {α : Type} [Inhabited α] {p : α → Bool} {l : List α} {i : Nat} (hi : i < l.length) (h : p (l.getD i default) = false) : l.all p = false := by
  rw [List.all_eq_false]
  exact ⟨_, mem_getD hi, by rw [h]; decide⟩
theorem all_yes {α : Type} {p : α → Bool} {l : List α} (h : ∀ a ∈ l, p a = true) : l.all p = true := List.all_eq_true.2 h
def smallD (d : Disk) : Bool := decide (d.sectors.length ≤ 320) && decide (d.cache.length ≤ 720) && d.sectors.all (fun s => decide (s.length ≤ 60)) && d.cache.all (fun w => decide (w.data.length ≤ 60))
theorem small_iff (d : Disk) : smallD d = true ↔ d.sectors.length ≤ 320 ∧ d.cache.length ≤ 720 ∧ (∀ s ∈ d.sectors, s.length ≤ 60) ∧ ∀ w ∈ d.cache, w.data.length ≤ 60 := by simp [smallD, and_assoc]
theorem eq_at {α : Type} [Inhabited α] {a b : List α} {i : Nat} (h : i < a.length) (hb : a.length = b.length) (hn : a.getD i default ≠ b.getD i default) : a ≠ b := fun e => hn (by rw [e])
theorem take_eq_snoc {α : Type} [Inhabited α] {a b : List α} {i : Nat} (h : i < a.length) (hb : a.length = b.length) (ht : a.take i = b.take i) (he : a.getD i default = b.getD i default) : a.take (i + 1) = b.take (i + 1) := by
  rw [take_getD h, take_getD (by omega), ht, he]
/-- What the last write says, write by write. -/
theorem lastW_take {a : Int} {cs : List Wr} {i : Nat} (hi : i < cs.length) (s : Bs) : lastW a (cs.take (i + 1)) s = if (cs.getD i default).loc = a then (cs.getD i default).data else lastW a (cs.take i) s := by
  rw [take_getD hi, lastW_append]; rfl
theorem range_snoc (n : Nat) (f : Nat → Bs) : (List.range (n + 1)).map f = (List.range n).map f ++ [f n] := by rw [List.range_succ, List.map_append]; rfl
theorem kept_snoc {keep : List Int} {ws : List Wr} {i : Nat} (h : i < ws.length) : keptW keep 0 (ws.take (i + 1)) = keptW keep 0 (ws.take i) ++ (if keep.contains (i : Int) = true then [ws.getD i default] else []) := by
  rw [← keptP_keep, ← keptP_keep, keptP_take _ _ _ h]
def newS (n : Int) : List Bs := if 1 ≤ n ∧ n ≤ 300 then List.replicate n.toNat (List.replicate 32 0) else []
def newE (n : Int) : Int := if 1 ≤ n ∧ n ≤ 300 then 0 else 1
end Go.Fs

/- Plain facts for the statements on disks. -/
namespace Go.Fs
theorem put_len (d : Disk) (w : Wr) : (putW d w).1.sectors.length = d.sectors.length ∧ (putW d w).1.cache.length ≤ max d.cache.length 700 := step_len d ⟨false, w⟩
theorem sync_len (d : Disk) : (syncD d).sectors.length = d.sectors.length ∧ (syncD d).cache.length ≤ max d.cache.length 700 := step_len d ⟨true, ⟨0, []⟩⟩
theorem crash_len (d : Disk) (keep : List Int) : (crashD d keep).sectors.length = d.sectors.length ∧ (crashD d keep).cache.length ≤ d.cache.length := by
  unfold crashD; split
  · simp [applyW_len]
  · exact ⟨rfl, Nat.le_refl _⟩
theorem runN_len (d : Disk) (l : List DOp) (n : Int) : (runD d (l.take n.toNat)).sectors.length = d.sectors.length ∧ (runD d (l.take n.toNat)).cache.length ≤ max d.cache.length 700 := run_len _ _
theorem read_in {d : Disk} (h : rightD d = true) {i : Nat} (hi : i < d.sectors.length) : readD d i = (getS d i, 0) := by
  unfold readD; rw [if_pos ⟨h, by omega, by omega⟩]; rfl
theorem sync_cache {d : Disk} (h : rightD d = true) : (syncD d).cache = [] := by unfold syncD; rw [if_pos h]
theorem crash_cache {d : Disk} (h : rightD d = true) (keep : List Int) : (crashD d keep).cache = [] := by unfold crashD; rw [if_pos h]
/-- All places. -/
def allN (n : Nat) : List Int := (List.range n).map fun (i : Nat) => (i : Int)
theorem allN_len (n : Nat) : (allN n).length = n := by simp [allN]
theorem allN_snoc (n : Nat) : allN (n + 1) = allN n ++ [(n : Int)] := by unfold allN; rw [List.range_succ, List.map_append]; rfl
theorem crash_all {d : Disk} : crashD d (allN d.cache.length) = syncD d := by
  unfold crashD syncD
  split
  · rw [kept_all]
    intro j h1 h2
    exact List.contains_iff_mem.2 (List.mem_map.2 ⟨j, List.mem_range.2 (by omega), rfl⟩)
  · rfl
theorem run_split (d : Disk) (l : List DOp) (k : Nat) : runD (runD d (l.take k)) (l.drop k) = runD d l := by
  rw [← run_append, List.take_append_drop]
theorem put_run {d : Disk} (h : rightD d = true) (hc : d.cache.length < 700) (w : Wr) : stepD d ⟨false, w⟩ = ⟨d.sectors, d.cache ++ (if mayD d.sectors.length w = true then [w] else [])⟩ := by
  unfold stepD
  rw [if_neg (by simp)]
  unfold putW
  by_cases hm : mayD d.sectors.length w = true
  · rw [if_pos ⟨h, hm⟩, if_neg (by omega), if_pos hm]
  · rw [if_neg (fun x => hm x.2), if_neg hm]; simp
theorem two_run {d : Disk} (h : rightD d = true) (hc : d.cache.length ≤ 698) (v w : Wr) : runD d [⟨false, v⟩, ⟨false, w⟩] = ⟨d.sectors, d.cache ++ (if mayD d.sectors.length v = true then [v] else []) ++ (if mayD d.sectors.length w = true then [w] else [])⟩ := by
  have h1 := put_run h (by omega) v
  have hr := right_step h ⟨false, v⟩
  have e : runD d [⟨false, v⟩, ⟨false, w⟩] = stepD (stepD d ⟨false, v⟩) ⟨false, w⟩ := rfl
  rw [e]
  rw [h1] at hr ⊢
  have h2 := put_run hr (by simp only; split <;> simp <;> omega) w
  rw [h2]
theorem lastW_swap (a : Int) (cs : List Wr) (v w : Wr) (h : v.loc ≠ w.loc) (s : Bs) (p q : Prop) [Decidable p] [Decidable q] :
    lastW a (cs ++ (if p then [v] else []) ++ (if q then [w] else [])) s = lastW a (cs ++ (if q then [w] else []) ++ (if p then [v] else [])) s := by
  by_cases hp : p <;> by_cases hq : q <;> simp only [hp, hq, if_true, if_false, List.append_nil, lastW_append, lastW]
  split <;> split <;> first | rfl | (rename_i h1 h2; exact absurd (h2.trans h1.symm) h) | (rename_i h1 h2; exact absurd (h1.trans h2.symm) h)
theorem getS_apart {d : Disk} (h : rightD d = true) (hc : d.cache.length ≤ 698) {v w : Wr} (hn : v.loc ≠ w.loc) (i : Nat) : getS (runD d [⟨false, v⟩, ⟨false, w⟩]) i = getS (runD d [⟨false, w⟩, ⟨false, v⟩]) i := by
  rw [two_run h hc, two_run h hc]
  exact lastW_swap _ _ _ _ hn _ _ _
theorem sync_apart {d : Disk} (h : rightD d = true) (hc : d.cache.length ≤ 698) {v w : Wr} (hn : v.loc ≠ w.loc) : syncD (runD d [⟨false, v⟩, ⟨false, w⟩]) = syncD (runD d [⟨false, w⟩, ⟨false, v⟩]) := by
  have h1 := right_run h [⟨false, v⟩, ⟨false, w⟩]
  have h2 := right_run h [⟨false, w⟩, ⟨false, v⟩]
  have l1 := (run_len [⟨false, v⟩, ⟨false, w⟩] d).1
  have l2 := (run_len [⟨false, w⟩, ⟨false, v⟩] d).1
  have e1 := sync_get h1
  have e2 := sync_get h2
  have c1 := sync_cache h1
  have c2 := sync_cache h2
  have e : (syncD (runD d [⟨false, v⟩, ⟨false, w⟩])).sectors = (syncD (runD d [⟨false, w⟩, ⟨false, v⟩])).sectors := by
    rw [e1, e2, l1, l2]
    apply List.map_congr_left
    intro i _
    exact getS_apart h hc hn i
  cases ha : syncD (runD d [⟨false, v⟩, ⟨false, w⟩]); cases hb : syncD (runD d [⟨false, w⟩, ⟨false, v⟩])
  rw [ha] at e c1; rw [hb] at e c2
  simp only at e c1 c2
  rw [e, c1, c2]
/-- Behind a crash each sector is what it was, or what one of the writes says. -/
theorem crash_one {d : Disk} (h : rightD d = true) (keep : List Int) {i : Nat} (hi : i < d.sectors.length) :
    (crashD d keep).sectors.getD i default = d.sectors.getD i default ∨ ∃ w ∈ d.cache, w.loc = i ∧ w.data = (crashD d keep).sectors.getD i default := by
  obtain ⟨h1, h2, h3, h4, h5⟩ := (right_iff d).1 h
  have e : (crashD d keep).sectors = applyW d.sectors (keptW keep 0 d.cache) := by unfold crashD; rw [if_pos h]
  have hg := applyW_get (keptW keep 0 d.cache) d.sectors i (fun w hw => ⟨((may_iff _ _).1 (h5 w (kept_sub _ _ _ w hw))).1, ((may_iff _ _).1 (h5 w (kept_sub _ _ _ w hw))).2.1⟩) hi
  rw [e]
  have hd : ∀ l : List Bs, l.getD i default = l.getD i [] := fun l => rfl
  rw [hd, hd, hg]
  rcases lastW_mem i (keptW keep 0 d.cache) (d.sectors.getD i []) with hh | ⟨w, hw, q1, q2⟩
  · exact .inl hh
  · exact .inr ⟨w, kept_sub _ _ _ w hw, q1, q2⟩
theorem right_false {d : Disk} (h : ¬ rightD d = true) : rightD d = false := by simpa using h
end Go.Fs
