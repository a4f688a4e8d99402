/-
  The plain law of TopDiagrams: the table of a built diagram is the table that it was built of.
-/
import Derived.Test.YtpokiglgjmcdoaaDia
set_option linter.unusedVariables false
set_option linter.unusedSimpArgs false
namespace Um.Dia

/-- the assignment of number k over n variables -/
def asgL (n k : Nat) : List Bool := (List.range n).map fun i => k.testBit (n - 1 - i)
/-- the table of a test of assignments -/
def tableL (n : Nat) (f : List Bool → Bool) : List Nat := (List.range (2 ^ n)).map fun k => if f (asgL n k) then 1 else 0
/-- a list of n truths as an assignment of the variables 1 .. n -/
def asgOf (a : List Bool) : Nat → Bool := fun u => a.getD (u - 1) false
/-- the table of a diagram over n variables -/
def diaTab (n : Nat) (d : List Ch × Nat) : List Nat := tableL n fun a => val d.1 (asgOf a) d.2 d.2

theorem tableL_length (n : Nat) (f : List Bool → Bool) : (tableL n f).length = 2 ^ n := by simp [tableL]
theorem tableL_bits (n : Nat) (f : List Bool → Bool) : ∀ x ∈ tableL n f, x < 2 := by
  intro x hx
  obtain ⟨k, _, rfl⟩ := List.mem_map.1 hx
  split <;> omega
theorem tableL_congr {n : Nat} {f g : List Bool → Bool} (h : ∀ k, k < 2 ^ n → f (asgL n k) = g (asgL n k)) : tableL n f = tableL n g := by
  apply List.map_congr_left
  intro k hk
  rw [h k (List.mem_range.1 hk)]
theorem val_congr {n : Nat} {cs : List Ch} (h : WF n cs) {a b : Nat → Bool} (hab : ∀ u, 1 ≤ u → u ≤ n → a u = b u) : ∀ (f i : Nat), i < cs.length + 2 → val cs a f i = val cs b f i := by
  intro f
  induction f with
  | zero => intro i _; rfl
  | succ f ih =>
    intro i hi
    by_cases h2 : i < 2
    · rw [val_small h2, val_small h2]
    · obtain ⟨c, hc⟩ : ∃ c, cs[i - 2]? = some c := ⟨_, List.getElem?_eq_getElem (by omega)⟩
      obtain ⟨h1, h1', h3, h4, _⟩ := h.at_ _ _ hc
      rw [val_step (by omega) hc, val_step (by omega) hc, hab c.v h1 h1']
      split
      · exact ih _ (by omega)
      · exact ih _ (by omega)
theorem asgOf_asgL {n k u : Nat} (h1 : 1 ≤ u) (h2 : u ≤ n) : asgOf (asgL n k) u = asg n k u := by
  unfold asgOf asgL asg
  rw [List.getD_eq_getElem?_getD, List.getElem?_map, List.getElem?_range (by omega)]
  simp only [Option.map_some, Option.getD_some]
  congr 1; omega
/-- what a built diagram is -/
structure Good (n : Nat) (d : List Ch × Nat) : Prop where
  wf : WF n d.1
  root : d.2 < d.1.length + 2
  few : d.1.length + 1 ≤ 2 ^ n
  dfs : ∃ f, visit d.1 f d.2 2 = some (d.1.length + 2)
theorem built_good {n : Nat} {t : List Nat} (hn : n ≤ 16) (ht : t.length = 2 ^ n) (hx : ∀ x ∈ t, x < 2) : Good n (built n t) := by
  have h := built_made hn ht hx
  obtain ⟨f, hf⟩ := h.dfs (built n t).1 [] (by simp)
  have hc := node_count n t 1 ([], fun _ => none)
  exact ⟨h.inv.wf, h.lt, by simpa [built] using hc, f, by simpa using hf f (Nat.le_refl _)⟩
theorem diaTab_built {n : Nat} (hn : n ≤ 16) (f : List Bool → Bool) : diaTab n (built n (tableL n f)) = tableL n f := by
  have hg := built_good hn (tableL_length n f) (tableL_bits n f)
  refine tableL_congr fun k hk => ?_
  refine (val_congr hg.wf (a := asgOf (asgL n k)) (fun u h1 h2 => asgOf_asgL (k := k) h1 h2) _ _ hg.root).trans ?_
  rw [built_val hn (tableL_length n f) (tableL_bits n f) hk]
  have : (tableL n f).getD k 0 = if f (asgL n k) then 1 else 0 := by
    rw [List.getD_eq_getElem?_getD, tableL, List.getElem?_map, List.getElem?_range hk]; rfl
  rw [this]
  rcases Bool.eq_false_or_eq_true (f (asgL n k)) with h1 | h1 <;> simp [h1]
/-- Combined at 'and'; Not -/
def andL (t u : List Nat) : List Nat := List.zipWith (fun a b => if a = 1 ∧ b = 1 then 1 else 0) t u
def notL (t : List Nat) : List Nat := t.map fun a => 1 - a
theorem andL_table (n : Nat) (f g : List Bool → Bool) : andL (tableL n f) (tableL n g) = tableL n fun a => f a && g a := by
  unfold andL tableL
  rw [List.zipWith_map]
  apply List.ext_getElem?
  intro i
  rw [List.getElem?_zipWith, List.getElem?_map]
  by_cases hi : i < 2 ^ n
  · rw [List.getElem?_range hi]
    simp only [Option.map_some]
    rcases Bool.eq_false_or_eq_true (f (asgL n i)) with h1 | h1 <;> rcases Bool.eq_false_or_eq_true (g (asgL n i)) with h2 | h2 <;> simp [h1, h2]
  · rw [List.getElem?_eq_none (by simp; omega)]; rfl
theorem notL_table (n : Nat) (f : List Bool → Bool) : notL (tableL n f) = tableL n fun a => !f a := by
  unfold notL tableL
  rw [List.map_map]
  apply List.map_congr_left
  intro k _
  simp only [Function.comp]
  rcases Bool.eq_false_or_eq_true (f (asgL n k)) with h1 | h1 <;> simp [h1]
/-- the law, of the tables -/
theorem both_law {n : Nat} (hn : n ≤ 16) (f g : List Bool → Bool) : built n (andL (diaTab n (built n (tableL n f))) (diaTab n (built n (tableL n g)))) = built n (tableL n fun a => f a && g a) := by
  rw [diaTab_built hn, diaTab_built hn, andL_table]
theorem not_law {n : Nat} (hn : n ≤ 16) (f : List Bool → Bool) : built n (notL (diaTab n (built n (notL (diaTab n (built n (tableL n f))))))) = built n (tableL n f) := by
  rw [diaTab_built hn, notL_table, diaTab_built hn, notL_table]
  congr 2
  funext a; simp
theorem one_law : (built 6 (tableL 6 fun a => a.getD 0 false)).1.length = 1 := by decide
end Um.Dia
