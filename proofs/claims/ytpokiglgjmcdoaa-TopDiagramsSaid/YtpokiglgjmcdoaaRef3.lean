/-
  The references' functions on terms, third part: depth, the greatest variable, how often a head stands, faults.
-/
import Derived.Test.YtpokiglgjmcdoaaRef2
set_option linter.unusedVariables false
set_option linter.unusedSimpArgs false
namespace Um.Tr
/-- how many nodes one within the other -/
def deep : Tr → Nat
  | .mk _ ks => deeps ks + 1
where deeps : List Tr → Nat
  | [] => 0
  | k :: ks => max k.deep (deeps ks)
/-- the greatest number of a variable -/
def most : Tr → Int
  | .mk h ks => max (max 0 (-h)) (mosts ks)
where mosts : List Tr → Int
  | [] => 0
  | k :: ks => max k.most (mosts ks)
/-- how often a head stands -/
def times (v : Int) : Tr → Nat
  | .mk h ks => (if h = v then 1 else 0) + timess v ks
where timess (v : Int) : List Tr → Nat
  | [] => 0
  | k :: ks => k.times v + timess v ks
/-- the first fault of a node, and how many came -/
def nodes : Tr → Nat → (Int × Nat) × Nat
  | .mk h ks, at_ => if h = 0 ∨ h < -8 ∨ 12 < h then ((3, at_), at_) else if 3 < ks.length ∨ (h < 0 ∧ 0 < ks.length) then ((9, at_), at_) else nodess ks (at_ + 1)
where nodess : List Tr → Nat → (Int × Nat) × Nat
  | [], at_ => ((0, 0), at_)
  | k :: ks, at_ => if (nodes k at_).1.1 ≠ 0 then nodes k at_ else nodess ks (nodes k at_).2
/-- what is wrong with a term: a code, and the place in preorder -/
def fault (t : Tr) : Int × Nat := if 40 < t.size then (2, 0) else if 12 < t.deep then (10, 0) else (nodes t 0).1

theorem deep_eq (t : Tr) : t.deep = deep.deeps t.kids + 1 := by cases t; rfl
theorem most_eq (t : Tr) : t.most = max (max 0 (-t.head)) (most.mosts t.kids) := by cases t; rfl
theorem times_eq (v : Int) (t : Tr) : t.times v = (if t.head = v then 1 else 0) + times.timess v t.kids := by cases t; rfl
theorem nodes_eq (t : Tr) (n : Nat) : t.nodes n = if t.head = 0 ∨ t.head < -8 ∨ 12 < t.head then ((3, n), n) else if 3 < t.kids.length ∨ (t.head < 0 ∧ 0 < t.kids.length) then ((9, n), n) else nodes.nodess t.kids (n + 1) := by cases t; rfl

theorem drop_cons {ks : List Tr} {k : Nat} {x : Tr} (h : ks[k]? = some x) : ks.drop k = x :: ks.drop (k + 1) := by
  obtain ⟨h1, rfl⟩ := List.getElem?_eq_some_iff.1 h
  exact List.drop_eq_getElem_cons h1
theorem take_snoc {ks : List Tr} {k : Nat} {x : Tr} (h : ks[k]? = some x) : ks.take (k + 1) = ks.take k ++ [x] := by
  rw [List.take_add_one, h]; rfl
theorem deeps_append (l m : List Tr) : deep.deeps (l ++ m) = max (deep.deeps l) (deep.deeps m) := by
  induction l with
  | nil => simp [deep.deeps]
  | cons a l ih => simp only [List.cons_append, deep.deeps, ih]; omega
theorem mosts_append (l m : List Tr) : most.mosts (l ++ m) = max (most.mosts l) (most.mosts m) := by
  induction l with
  | nil =>
    have : 0 ≤ most.mosts m := by
      induction m with
      | nil => simp [most.mosts]
      | cons a m ih => simp only [most.mosts]; omega
    simp only [List.nil_append, most.mosts]; omega
  | cons a l ih => simp only [List.cons_append, most.mosts, ih]; omega
theorem timess_append (v : Int) (l m : List Tr) : times.timess v (l ++ m) = times.timess v l + times.timess v m := by
  induction l with
  | nil => simp [times.timess]
  | cons a l ih => simp only [List.cons_append, times.timess, ih]; omega
theorem sizes_append (l m : List Tr) : size.sizes (l ++ m) = size.sizes l + size.sizes m := by
  induction l with
  | nil => simp [size.sizes]
  | cons a l ih => simp only [List.cons_append, size.sizes, ih]; omega
theorem deeps_take {ks : List Tr} {k : Nat} {x : Tr} (h : ks[k]? = some x) : deep.deeps (ks.take (k + 1)) = max (deep.deeps (ks.take k)) x.deep := by
  rw [take_snoc h, deeps_append]; simp [deep.deeps]
theorem most_nonneg (t : Tr) : 0 ≤ t.most := by rw [most_eq]; omega
theorem mosts_take {ks : List Tr} {k : Nat} {x : Tr} (h : ks[k]? = some x) : most.mosts (ks.take (k + 1)) = max (most.mosts (ks.take k)) x.most := by
  have := x.most_nonneg
  rw [take_snoc h, mosts_append]; simp only [most.mosts]; omega
theorem timess_take {v : Int} {ks : List Tr} {k : Nat} {x : Tr} (h : ks[k]? = some x) : times.timess v (ks.take (k + 1)) = times.timess v (ks.take k) + x.times v := by
  rw [take_snoc h, timess_append]; simp [times.timess]
theorem times_le_size (v : Int) (t : Tr) : t.times v ≤ t.size := by
  induction t using ind with
  | step t ih =>
    rw [times_eq, size_eq]
    have : times.timess v t.kids ≤ size.sizes t.kids := by
      generalize t.kids = l at ih
      induction l with
      | nil => simp [times.timess, size.sizes]
      | cons a l ihl => have h1 := ih a (by simp); have h2 := ihl (fun k hk => ih k (by simp [hk])); simp only [times.timess, size.sizes]; omega
    split <;> omega
theorem timess_le_sizes (v : Int) (l : List Tr) : times.timess v l ≤ size.sizes l := by
  induction l with
  | nil => simp [times.timess, size.sizes]
  | cons a l ih => have := times_le_size v a; simp only [times.timess, size.sizes]; omega
theorem deep_le_size (t : Tr) : t.deep ≤ t.size := by
  induction t using ind with
  | step t ih =>
    rw [deep_eq, size_eq]
    have : deep.deeps t.kids ≤ size.sizes t.kids := by
      generalize t.kids = l at ih
      induction l with
      | nil => simp [deep.deeps, size.sizes]
      | cons a l ihl => have h1 := ih a (by simp); have h2 := ihl (fun k hk => ih k (by simp [hk])); simp only [deep.deeps, size.sizes]; omega
    omega
theorem deeps_le_sizes (l : List Tr) : deep.deeps l ≤ size.sizes l := by
  induction l with
  | nil => simp [deep.deeps, size.sizes]
  | cons a l ih => have := deep_le_size a; simp only [deep.deeps, size.sizes]; omega
theorem sizes_take_le (l : List Tr) (k : Nat) : size.sizes (l.take k) ≤ size.sizes l := by
  conv => rhs; rw [← List.take_append_drop k l, sizes_append]
  omega
theorem times_pos_iff (v : Int) (t : Tr) : 0 < t.times v ↔ t.has v = true := by
  induction t using ind with
  | step t ih =>
    rw [times_eq, has_iff]
    have : 0 < times.timess v t.kids ↔ ∃ k ∈ t.kids, k.has v = true := by
      generalize t.kids = l at ih
      induction l with
      | nil => simp [times.timess]
      | cons a l ihl =>
        have h1 := ih a (by simp)
        have h2 := ihl (fun k hk => ih k (by simp [hk]))
        simp only [times.timess, List.mem_cons, exists_eq_or_imp, ← h1, ← h2]
        omega
    rw [← this]
    by_cases h : t.head = v <;> simp [h]
    omega
end Um.Tr
