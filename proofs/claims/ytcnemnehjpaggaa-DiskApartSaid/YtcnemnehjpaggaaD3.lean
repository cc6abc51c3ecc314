/- Plain facts for the statements on disks. -/
import Derived.Test.YtcnemnehjpaggaaD2
set_option linter.all false
namespace Go.Fs
theorem put_len (d : Disk) (w : Wr) : (putW d w).1.sectors.length = d.sectors.length ∧ (putW d w).1.cache.length ≤ max d.cache.length 700 := step_len d ⟨false, w⟩
theorem sync_len (d : Disk) : (syncD d).sectors.length = d.sectors.length ∧ (syncD d).cache.length ≤ max d.cache.length 700 := step_len d ⟨true, ⟨0, []⟩⟩
theorem crash_len (d : Disk) (keep : List Int) : (crashD d keep).sectors.length = d.sectors.length ∧ (crashD d keep).cache.length ≤ d.cache.length := by
  unfold crashD; split
  · simp [applyW_len]
  · exact ⟨rfl, Nat.le_refl _⟩
theorem runN_len (d : Disk) (l : List DOp) (n : Int) : (runD d (l.take n.toNat)).sectors.length = d.sectors.length ∧ (runD d (l.take n.toNat)).cache.length ≤ max d.cache.length 700 := run_len _ _
theorem read_in {d : Disk} (h : rightD d = true) {i : Nat} (hi : i < d.sectors.length) : readD d i = (getS d i, 0) := by
  unfold readD; rw [if_pos ⟨h, by omega, by omega⟩]; rfl
theorem sync_cache {d : Disk} (h : rightD d = true) : (syncD d).cache = [] := by unfold syncD; rw [if_pos h]
theorem crash_cache {d : Disk} (h : rightD d = true) (keep : List Int) : (crashD d keep).cache = [] := by unfold crashD; rw [if_pos h]
/-- All places. -/
def allN (n : Nat) : List Int := (List.range n).map fun (i : Nat) => (i : Int)
theorem allN_len (n : Nat) : (allN n).length = n := by simp [allN]
theorem allN_snoc (n : Nat) : allN (n + 1) = allN n ++ [(n : Int)] := by unfold allN; rw [List.range_succ, List.map_append]; rfl
theorem crash_all {d : Disk} : crashD d (allN d.cache.length) = syncD d := by
  unfold crashD syncD
  split
  · rw [kept_all]
    intro j h1 h2
    exact List.contains_iff_mem.2 (List.mem_map.2 ⟨j, List.mem_range.2 (by omega), rfl⟩)
  · rfl
theorem run_split (d : Disk) (l : List DOp) (k : Nat) : runD (runD d (l.take k)) (l.drop k) = runD d l := by
  rw [← run_append, List.take_append_drop]
theorem put_run {d : Disk} (h : rightD d = true) (hc : d.cache.length < 700) (w : Wr) : stepD d ⟨false, w⟩ = ⟨d.sectors, d.cache ++ (if mayD d.sectors.length w = true then [w] else [])⟩ := by
  unfold stepD
  rw [if_neg (by simp)]
  unfold putW
  by_cases hm : mayD d.sectors.length w = true
  · rw [if_pos ⟨h, hm⟩, if_neg (by omega), if_pos hm]
  · rw [if_neg (fun x => hm x.2), if_neg hm]; simp
theorem two_run {d : Disk} (h : rightD d = true) (hc : d.cache.length ≤ 698) (v w : Wr) : runD d [⟨false, v⟩, ⟨false, w⟩] = ⟨d.sectors, d.cache ++ (if mayD d.sectors.length v = true then [v] else []) ++ (if mayD d.sectors.length w = true then [w] else [])⟩ := by
  have h1 := put_run h (by omega) v
  have hr := right_step h ⟨false, v⟩
  have e : runD d [⟨false, v⟩, ⟨false, w⟩] = stepD (stepD d ⟨false, v⟩) ⟨false, w⟩ := rfl
  rw [e]
  rw [h1] at hr ⊢
  have h2 := put_run hr (by simp only; split <;> simp <;> omega) w
  rw [h2]
theorem lastW_swap (a : Int) (cs : List Wr) (v w : Wr) (h : v.loc ≠ w.loc) (s : Bs) (p q : Prop) [Decidable p] [Decidable q] :
    lastW a (cs ++ (if p then [v] else []) ++ (if q then [w] else [])) s = lastW a (cs ++ (if q then [w] else []) ++ (if p then [v] else [])) s := by
  by_cases hp : p <;> by_cases hq : q <;> simp only [hp, hq, if_true, if_false, List.append_nil, lastW_append, lastW]
  split <;> split <;> first | rfl | (rename_i h1 h2; exact absurd (h2.trans h1.symm) h) | (rename_i h1 h2; exact absurd (h1.trans h2.symm) h)
theorem getS_apart {d : Disk} (h : rightD d = true) (hc : d.cache.length ≤ 698) {v w : Wr} (hn : v.loc ≠ w.loc) (i : Nat) : getS (runD d [⟨false, v⟩, ⟨false, w⟩]) i = getS (runD d [⟨false, w⟩, ⟨false, v⟩]) i := by
  rw [two_run h hc, two_run h hc]
  exact lastW_swap _ _ _ _ hn _ _ _
theorem sync_apart {d : Disk} (h : rightD d = true) (hc : d.cache.length ≤ 698) {v w : Wr} (hn : v.loc ≠ w.loc) : syncD (runD d [⟨false, v⟩, ⟨false, w⟩]) = syncD (runD d [⟨false, w⟩, ⟨false, v⟩]) := by
  have h1 := right_run h [⟨false, v⟩, ⟨false, w⟩]
  have h2 := right_run h [⟨false, w⟩, ⟨false, v⟩]
  have l1 := (run_len [⟨false, v⟩, ⟨false, w⟩] d).1
  have l2 := (run_len [⟨false, w⟩, ⟨false, v⟩] d).1
  have e1 := sync_get h1
  have e2 := sync_get h2
  have c1 := sync_cache h1
  have c2 := sync_cache h2
  have e : (syncD (runD d [⟨false, v⟩, ⟨false, w⟩])).sectors = (syncD (runD d [⟨false, w⟩, ⟨false, v⟩])).sectors := by
    rw [e1, e2, l1, l2]
    apply List.map_congr_left
    intro i _
    exact getS_apart h hc hn i
  cases ha : syncD (runD d [⟨false, v⟩, ⟨false, w⟩]); cases hb : syncD (runD d [⟨false, w⟩, ⟨false, v⟩])
  rw [ha] at e c1; rw [hb] at e c2
  simp only at e c1 c2
  rw [e, c1, c2]
/-- Behind a crash each sector is what it was, or what one of the writes says. -/
theorem crash_one {d : Disk} (h : rightD d = true) (keep : List Int) {i : Nat} (hi : i < d.sectors.length) :
    (crashD d keep).sectors.getD i default = d.sectors.getD i default ∨ ∃ w ∈ d.cache, w.loc = i ∧ w.data = (crashD d keep).sectors.getD i default := by
  obtain ⟨h1, h2, h3, h4, h5⟩ := (right_iff d).1 h
  have e : (crashD d keep).sectors = applyW d.sectors (keptW keep 0 d.cache) := by unfold crashD; rw [if_pos h]
  have hg := applyW_get (keptW keep 0 d.cache) d.sectors i (fun w hw => ⟨((may_iff _ _).1 (h5 w (kept_sub _ _ _ w hw))).1, ((may_iff _ _).1 (h5 w (kept_sub _ _ _ w hw))).2.1⟩) hi
  rw [e]
  have hd : ∀ l : List Bs, l.getD i default = l.getD i [] := fun l => rfl
  rw [hd, hd, hg]
  rcases lastW_mem i (keptW keep 0 d.cache) (d.sectors.getD i []) with hh | ⟨w, hw, q1, q2⟩
  · exact .inl hh
  · exact .inr ⟨w, kept_sub _ _ _ w hw, q1, q2⟩
theorem right_false {d : Disk} (h : ¬ rightD d = true) : rightD d = false := by simpa using h
end Go.Fs
