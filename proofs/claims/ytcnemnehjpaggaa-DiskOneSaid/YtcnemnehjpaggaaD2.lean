/- More plain facts of the disk. -/
import Derived.Test.YtcnemnehjpaggaaD0
import Derived.Test.YtcnemnehjpaggaaD1
set_option linter.all false
namespace Go.Fs
instance : Inhabited Wr := ⟨⟨0, []⟩⟩
instance : Inhabited DOp := ⟨⟨false, ⟨0, []⟩⟩⟩
theorem disk_eta (d : Disk) : Disk.mk d.sectors d.cache = d := rfl
theorem wr_eta (w : Wr) : Wr.mk w.loc w.data = w := rfl
theorem op_eta (o : DOp) : DOp.mk o.sync o.w = o := rfl
theorem lastW_none {a : Int} {cs : List Wr} (h : ∀ w ∈ cs, w.loc ≠ a) : ∀ s, lastW a cs s = s := by
  induction cs with
  | nil => intro s; rfl
  | cons w cs ih =>
    intro s
    simp only [lastW, if_neg (h w (by simp))]
    exact ih (fun v hv => h v (List.mem_cons_of_mem _ hv)) s
theorem lastW_hit {a : Int} {cs : List Wr} {i : Nat} (hi : i < cs.length) (h : ∀ w ∈ cs.drop (i + 1), w.loc ≠ a) (ha : (cs.getD i default).loc = a) (s : Bs) : lastW a cs s = (cs.getD i default).data := by
  have e : cs = cs.take i ++ cs.getD i default :: cs.drop (i + 1) := by rw [← drop_getD hi, List.take_append_drop]
  conv => lhs; rw [e]
  rw [lastW_append, lastW, if_pos ha, lastW_none h]
theorem drop_all {α : Type} [Inhabited α] {Q : α → Prop} {l : List α} {i : Nat} (hi : i < l.length) (h : ∀ a ∈ l.drop (i + 1), Q a) (hq : Q (l.getD i default)) : ∀ a ∈ l.drop i, Q a := by
  intro a ha
  rw [drop_getD hi] at ha
  rcases List.mem_cons.1 ha with h1 | h1
  · rw [h1]; exact hq
  · exact h a h1
/-- Those whose places meet a test. -/
def keptP (p : Nat → Bool) : Nat → List Wr → List Wr
  | _, [] => []
  | i, w :: r => if p i = true then w :: keptP p (i + 1) r else keptP p (i + 1) r
theorem keptP_append (p : Nat → Bool) (b : List Wr) : ∀ (a : List Wr) (i : Nat), keptP p i (a ++ b) = keptP p i a ++ keptP p (i + a.length) b
  | [], i => by simp [keptP]
  | w :: a, i => by
    simp only [List.cons_append, keptP, keptP_append p b a (i + 1), List.length_cons]
    have : i + 1 + a.length = i + (a.length + 1) := by omega
    rw [this]; split <;> rfl
theorem keptP_take (p : Nat → Bool) (ws : List Wr) (i : Nat) (h : i < ws.length) : keptP p 0 (ws.take (i + 1)) = keptP p 0 (ws.take i) ++ (if p i = true then [ws.getD i default] else []) := by
  rw [take_getD h, keptP_append]
  simp only [keptP, List.length_take, Nat.zero_add, Nat.min_eq_left (Nat.le_of_lt h)]
theorem keptP_all (ws : List Wr) : ∀ i, keptP (fun _ => true) i ws = ws := by
  induction ws with
  | nil => intro i; rfl
  | cons w ws ih => intro i; simp [keptP, ih]
theorem keptP_keep (keep : List Int) (ws : List Wr) : ∀ i, keptP (fun i => keep.contains (i : Int)) i ws = keptW keep i ws := by
  induction ws with
  | nil => intro i; rfl
  | cons w ws ih => intro i; simp only [keptP, keptW, ih]
def doneD (p : Nat → Bool) (d : Disk) : Disk := if rightD d = true then ⟨applyW d.sectors (keptP p 0 d.cache), []⟩ else d
theorem done_sync (d : Disk) : doneD (fun _ => true) d = syncD d := by unfold doneD syncD; rw [keptP_all]
theorem done_crash (d : Disk) (keep : List Int) : doneD (fun i => keep.contains (i : Int)) d = crashD d keep := by unfold doneD crashD; rw [keptP_keep]
theorem step_len (d : Disk) (o : DOp) : (stepD d o).sectors.length = d.sectors.length ∧ (stepD d o).cache.length ≤ max d.cache.length 700 := by
  unfold stepD
  split
  · unfold syncD; split
    · simp [applyW_len]
    · exact ⟨rfl, by omega⟩
  · unfold putW; split
    · split
      · exact ⟨rfl, by simp only; omega⟩
      · refine ⟨rfl, ?_⟩; simp; omega
    · exact ⟨rfl, by simp only; omega⟩
theorem run_len (l : List DOp) : ∀ d, (runD d l).sectors.length = d.sectors.length ∧ (runD d l).cache.length ≤ max d.cache.length 700 := by
  induction l with
  | nil => intro d; exact ⟨rfl, by simp [runD]; omega⟩
  | cons o l ih =>
    intro d
    have h1 := ih (stepD d o)
    have h2 := step_len d o
    have : runD d (o :: l) = runD (stepD d o) l := rfl
    rw [this]
    exact ⟨by omega, by omega⟩
theorem run_snoc {d : Disk} {l : List DOp} {i : Nat} (h : i < l.length) : runD d (l.take (i + 1)) = stepD (runD d (l.take i)) (l.getD i default) := by
  rw [take_getD h, run_append]; rfl
theorem all_no {α : Type} [Inhabited α] {p : α → Bool} {l : List α} {i : Nat} (hi : i < l.length) (h : p (l.getD i default) = false) : l.all p = false := by
  rw [List.all_eq_false]
  exact ⟨_, mem_getD hi, by rw [h]; decide⟩
theorem all_yes {α : Type} {p : α → Bool} {l : List α} (h : ∀ a ∈ l, p a = true) : l.all p = true := List.all_eq_true.2 h
def smallD (d : Disk) : Bool := decide (d.sectors.length ≤ 320) && decide (d.cache.length ≤ 720) && d.sectors.all (fun s => decide (s.length ≤ 60)) && d.cache.all (fun w => decide (w.data.length ≤ 60))
theorem small_iff (d : Disk) : smallD d = true ↔ d.sectors.length ≤ 320 ∧ d.cache.length ≤ 720 ∧ (∀ s ∈ d.sectors, s.length ≤ 60) ∧ ∀ w ∈ d.cache, w.data.length ≤ 60 := by simp [smallD, and_assoc]
theorem eq_at {α : Type} [Inhabited α] {a b : List α} {i : Nat} (h : i < a.length) (hb : a.length = b.length) (hn : a.getD i default ≠ b.getD i default) : a ≠ b := fun e => hn (by rw [e])
theorem take_eq_snoc {α : Type} [Inhabited α] {a b : List α} {i : Nat} (h : i < a.length) (hb : a.length = b.length) (ht : a.take i = b.take i) (he : a.getD i default = b.getD i default) : a.take (i + 1) = b.take (i + 1) := by
  rw [take_getD h, take_getD (by omega), ht, he]
/-- What the last write says, write by write. -/
theorem lastW_take {a : Int} {cs : List Wr} {i : Nat} (hi : i < cs.length) (s : Bs) : lastW a (cs.take (i + 1)) s = if (cs.getD i default).loc = a then (cs.getD i default).data else lastW a (cs.take i) s := by
  rw [take_getD hi, lastW_append]; rfl
theorem range_snoc (n : Nat) (f : Nat → Bs) : (List.range (n + 1)).map f = (List.range n).map f ++ [f n] := by rw [List.range_succ, List.map_append]; rfl
theorem kept_snoc {keep : List Int} {ws : List Wr} {i : Nat} (h : i < ws.length) : keptW keep 0 (ws.take (i + 1)) = keptW keep 0 (ws.take i) ++ (if keep.contains (i : Int) = true then [ws.getD i default] else []) := by
  rw [← keptP_keep, ← keptP_keep, keptP_take _ _ _ h]
def newS (n : Int) : List Bs := if 1 ≤ n ∧ n ≤ 300 then List.replicate n.toNat (List.replicate 32 0) else []
def newE (n : Int) : Int := if 1 ≤ n ∧ n ≤ 300 then 0 else 1
end Go.Fs
