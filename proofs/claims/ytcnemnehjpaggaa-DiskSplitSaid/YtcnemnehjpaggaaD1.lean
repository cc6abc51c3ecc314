/- The disk of the document, as plain data. No program in sight. -/
import Derived.Test.YtcnemnehjpaggaaW1
set_option linter.all false
namespace Go.Fs
structure Wr where
  loc : Int
  data : Bs
  deriving DecidableEq
structure Disk where
  sectors : List Bs
  cache : List Wr
  deriving DecidableEq
structure DOp where
  sync : Bool
  w : Wr
  deriving DecidableEq

def mayD (n : Nat) (w : Wr) : Bool := decide (0 ≤ w.loc) && decide (w.loc < n) && decide (w.data.length = 32)
def rightD (d : Disk) : Bool := decide (1 ≤ d.sectors.length) && decide (d.sectors.length ≤ 300) && decide (d.cache.length ≤ 700) &&
  d.sectors.all (fun s => decide (s.length = 32)) && d.cache.all (mayD d.sectors.length)
/-- What the last write says; else the sector. -/
def lastW (at_ : Int) : List Wr → Bs → Bs
  | [], s => s
  | w :: r, s => lastW at_ r (if w.loc = at_ then w.data else s)
def getS (d : Disk) (at_ : Nat) : Bs := lastW at_ d.cache (d.sectors.getD at_ [])
def readD (d : Disk) (at_ : Int) : Bs × Int := if rightD d = true ∧ 0 ≤ at_ ∧ at_ < d.sectors.length then (getS d at_.toNat, 0) else ([], 1)
def putW (d : Disk) (w : Wr) : Disk × Int := if rightD d = true ∧ mayD d.sectors.length w = true then (if 700 ≤ d.cache.length then (d, 10) else (⟨d.sectors, d.cache ++ [w]⟩, 0)) else (d, 1)
/-- Writes, done in their order. -/
def applyW (ss : List Bs) (ws : List Wr) : List Bs := ws.foldl (fun s w => s.set w.loc.toNat w.data) ss
/-- Those whose places (from i on) stand in keep. -/
def keptW (keep : List Int) : Nat → List Wr → List Wr
  | _, [] => []
  | i, w :: r => if keep.contains (i : Int) then w :: keptW keep (i + 1) r else keptW keep (i + 1) r
def syncD (d : Disk) : Disk := if rightD d = true then ⟨applyW d.sectors d.cache, []⟩ else d
def crashD (d : Disk) (keep : List Int) : Disk := if rightD d = true then ⟨applyW d.sectors (keptW keep 0 d.cache), []⟩ else d
def stepD (d : Disk) (o : DOp) : Disk := if o.sync = true then syncD d else (putW d o.w).1
def runD (d : Disk) (l : List DOp) : Disk := l.foldl stepD d
def newD (n : Nat) : Disk := ⟨List.replicate n (List.replicate 32 0), []⟩

/-! ### Plain facts -/
theorem applyW_nil (ss : List Bs) : applyW ss [] = ss := rfl
theorem applyW_cons (ss : List Bs) (w : Wr) (ws : List Wr) : applyW ss (w :: ws) = applyW (ss.set w.loc.toNat w.data) ws := rfl
theorem applyW_append (ss : List Bs) (a b : List Wr) : applyW ss (a ++ b) = applyW (applyW ss a) b := by simp [applyW]
theorem applyW_len (ws : List Wr) : ∀ ss, (applyW ss ws).length = ss.length := by
  induction ws with
  | nil => intro ss; rfl
  | cons w ws ih => intro ss; rw [applyW_cons, ih]; simp
theorem lastW_append (at_ : Int) (a b : List Wr) : ∀ s, lastW at_ (a ++ b) s = lastW at_ b (lastW at_ a s) := by
  induction a with
  | nil => intro s; rfl
  | cons w a ih => intro s; simp only [List.cons_append, lastW]; rw [ih]
/-- Sector by sector. -/
theorem applyW_get (ws : List Wr) : ∀ (ss : List Bs) (i : Nat), (∀ w ∈ ws, 0 ≤ w.loc ∧ w.loc < ss.length) → i < ss.length → (applyW ss ws).getD i [] = lastW i ws (ss.getD i []) := by
  induction ws with
  | nil => intro ss i _ _; rfl
  | cons w ws ih =>
    intro ss i hw hi
    rw [applyW_cons, ih _ _ (fun v hv => by simpa using hw v (List.mem_cons_of_mem _ hv)) (by simpa using hi)]
    simp only [lastW]
    congr 1
    have h := hw w (by simp)
    by_cases e : w.loc = i
    · have : w.loc.toNat = i := by omega
      simp [hi, e]
    · have : w.loc.toNat ≠ i := by omega
      simp [this, e]
theorem right_iff (d : Disk) : rightD d = true ↔ 1 ≤ d.sectors.length ∧ d.sectors.length ≤ 300 ∧ d.cache.length ≤ 700 ∧ (∀ s ∈ d.sectors, s.length = 32) ∧ ∀ w ∈ d.cache, mayD d.sectors.length w = true := by
  simp [rightD, and_assoc]
theorem may_iff (n : Nat) (w : Wr) : mayD n w = true ↔ 0 ≤ w.loc ∧ w.loc < n ∧ w.data.length = 32 := by simp [mayD, and_assoc]

theorem applyW_all (ws : List Wr) : ∀ (ss : List Bs), (∀ s ∈ ss, s.length = 32) → (∀ w ∈ ws, w.data.length = 32) → ∀ s ∈ applyW ss ws, s.length = 32 := by
  induction ws with
  | nil => intro ss h _; exact h
  | cons w ws ih =>
    intro ss h hw
    rw [applyW_cons]
    refine ih _ (fun s hs => ?_) (fun v hv => hw v (List.mem_cons_of_mem _ hv))
    rcases List.mem_or_eq_of_mem_set hs with h1 | h1
    · exact h s h1
    · rw [h1]; exact hw w (by simp)
theorem kept_sub (keep : List Int) (ws : List Wr) : ∀ i, ∀ w ∈ keptW keep i ws, w ∈ ws := by
  induction ws with
  | nil => intro i w h; simp [keptW] at h
  | cons v ws ih =>
    intro i w h
    simp only [keptW] at h
    split at h
    · rcases List.mem_cons.1 h with h | h
      · exact h ▸ List.mem_cons_self
      · exact List.mem_cons_of_mem _ (ih _ _ h)
    · exact List.mem_cons_of_mem _ (ih _ _ h)

theorem right_apply {d : Disk} (h : rightD d = true) {ws : List Wr} (hw : ∀ w ∈ ws, w ∈ d.cache) : rightD ⟨applyW d.sectors ws, []⟩ = true := by
  rw [right_iff] at h ⊢
  obtain ⟨h1, h2, h3, h4, h5⟩ := h
  refine ⟨by simpa [applyW_len] using h1, by simpa [applyW_len] using h2, by simp, applyW_all _ _ h4 fun w hm => ((may_iff _ _).1 (h5 w (hw w hm))).2.2, by simp⟩
theorem right_sync {d : Disk} (h : rightD d = true) : rightD (syncD d) = true := by
  unfold syncD; rw [if_pos h]; exact right_apply h fun _ h => h
theorem right_crash {d : Disk} (h : rightD d = true) (keep : List Int) : rightD (crashD d keep) = true := by
  unfold crashD; rw [if_pos h]; exact right_apply h (kept_sub _ _ _)
theorem right_put {d : Disk} (h : rightD d = true) (w : Wr) : rightD (putW d w).1 = true := by
  unfold putW
  split
  · rename_i hc
    split
    · exact h
    · rw [right_iff] at h ⊢
      obtain ⟨h1, h2, h3, h4, h5⟩ := h
      refine ⟨h1, h2, by simp; omega, h4, fun v hv => ?_⟩
      rcases List.mem_append.1 hv with hv | hv
      · exact h5 v hv
      · simp at hv; rw [hv]; exact hc.2
  · exact h
theorem right_step {d : Disk} (h : rightD d = true) (o : DOp) : rightD (stepD d o) = true := by
  unfold stepD; split
  · exact right_sync h
  · exact right_put h _
theorem wrong_sync {d : Disk} (h : rightD d = false) : syncD d = d := by unfold syncD; simp [h]
theorem wrong_crash {d : Disk} (h : rightD d = false) (keep : List Int) : crashD d keep = d := by unfold crashD; simp [h]
theorem wrong_put {d : Disk} (h : rightD d = false) (w : Wr) : putW d w = (d, 1) := by unfold putW; simp [h]
theorem wrong_step {d : Disk} (h : rightD d = false) (o : DOp) : stepD d o = d := by
  unfold stepD; split
  · exact wrong_sync h
  · rw [wrong_put h]
theorem wrong_run {d : Disk} (h : rightD d = false) (l : List DOp) : runD d l = d := by
  unfold runD
  induction l with
  | nil => rfl
  | cons o l ih => rw [List.foldl_cons, wrong_step h, ih]
theorem right_run {d : Disk} (h : rightD d = true) (l : List DOp) : rightD (runD d l) = true := by
  unfold runD
  induction l generalizing d with
  | nil => exact h
  | cons o l ih => exact ih (right_step h o)
theorem run_append (d : Disk) (a b : List DOp) : runD d (a ++ b) = runD (runD d a) b := by simp [runD]

/-- A sync, sector by sector. -/
theorem sync_get {d : Disk} (h : rightD d = true) : (syncD d).sectors = (List.range d.sectors.length).map (getS d) := by
  obtain ⟨h1, h2, h3, h4, h5⟩ := (right_iff d).1 h
  unfold syncD; rw [if_pos h]
  refine List.ext_getElem (by simp [applyW_len]) fun i hi hj => ?_
  have hi' : i < d.sectors.length := by simpa [applyW_len] using hi
  have := applyW_get d.cache d.sectors i (fun w hw => ⟨((may_iff _ _).1 (h5 w hw)).1, ((may_iff _ _).1 (h5 w hw)).2.1⟩) hi'
  simp only [List.getElem_map, List.getElem_range, getS]
  rw [← this]
  simp [hi]
theorem getS_sync {d : Disk} (h : rightD d = true) {i : Nat} (hi : i < d.sectors.length) : getS (syncD d) i = getS d i := by
  have := sync_get h
  have hc : (syncD d).cache = [] := by unfold syncD; rw [if_pos h]
  rw [getS, hc, this]
  simp [lastW, hi]
theorem crash_nil {d : Disk} (h : rightD d = true) (hc : d.cache = []) (keep : List Int) : crashD d keep = d := by
  unfold crashD; rw [if_pos h, hc]
  obtain ⟨ss, c⟩ := d
  simp at hc; subst hc
  rfl
theorem kept_all (ws : List Wr) (keep : List Int) : ∀ (i : Nat), (∀ j : Nat, i ≤ j → j < i + ws.length → keep.contains (j : Int) = true) → keptW keep i ws = ws := by
  induction ws with
  | nil => intro i _; rfl
  | cons w ws ih =>
    intro i h
    simp only [keptW, h i (Nat.le_refl _) (by simp), if_true]
    rw [ih (i + 1) fun j h1 h2 => h j (by omega) (by simp; omega)]
theorem lastW_mem (at_ : Int) (ws : List Wr) : ∀ s, lastW at_ ws s = s ∨ ∃ w ∈ ws, w.loc = at_ ∧ w.data = lastW at_ ws s := by
  induction ws with
  | nil => intro s; exact .inl rfl
  | cons w ws ih =>
    intro s
    simp only [lastW]
    rcases ih (if w.loc = at_ then w.data else s) with h | ⟨v, hv, h1, h2⟩
    · by_cases e : w.loc = at_
      · rw [if_pos e] at h ⊢
        exact .inr ⟨w, by simp, e, h.symm⟩
      · rw [if_neg e] at h ⊢
        exact .inl h
    · exact .inr ⟨v, List.mem_cons_of_mem _ hv, h1, h2⟩
theorem new_right {n : Nat} (h1 : 1 ≤ n) (h2 : n ≤ 300) : rightD (newD n) = true := by
  rw [right_iff]
  exact ⟨by simpa [newD] using h1, by simpa [newD] using h2, by simp [newD], fun s hs => by simp [newD] at hs; rw [hs.2]; simp, by simp [newD]⟩
end Go.Fs
