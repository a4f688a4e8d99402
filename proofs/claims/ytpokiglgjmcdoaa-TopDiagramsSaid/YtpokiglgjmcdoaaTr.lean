/-
  Plain terms of first order, as lists of lists: no program in sight. Terms with a head and kids; the lexicographic path ordering; its laws.
-/
set_option linter.unusedVariables false
set_option linter.unusedSimpArgs false
namespace Um

inductive Tr where
  | mk (h : Int) (ks : List Tr)
  deriving Inhabited

namespace Tr
def head : Tr → Int | .mk h _ => h
def kids : Tr → List Tr | .mk _ ks => ks
@[simp] theorem head_mk (h : Int) (ks : List Tr) : (Tr.mk h ks).head = h := rfl
@[simp] theorem kids_mk (h : Int) (ks : List Tr) : (Tr.mk h ks).kids = ks := rfl
theorem eta (t : Tr) : Tr.mk t.head t.kids = t := by cases t; rfl
theorem ext' {a b : Tr} (h : a.head = b.head) (k : a.kids = b.kids) : a = b := by cases a; cases b; simp_all

def size : Tr → Nat
  | .mk _ ks => 1 + sizes ks
where sizes : List Tr → Nat
  | [] => 0
  | k :: ks => k.size + sizes ks

theorem size_pos (t : Tr) : 1 ≤ t.size := by cases t; simp [size]
theorem size_eq (t : Tr) : t.size = 1 + size.sizes t.kids := by cases t; rfl
theorem sizes_mem {k : Tr} {ks : List Tr} (h : k ∈ ks) : k.size ≤ size.sizes ks := by
  induction ks with
  | nil => cases h
  | cons a as ih =>
    cases h with
    | head => simp [size.sizes]
    | tail _ h => have := ih h; simp only [size.sizes]; omega
theorem size_kid {k t : Tr} (h : k ∈ t.kids) : k.size < t.size := by
  have := sizes_mem h; rw [size_eq t]; omega

theorem ind {p : Tr → Prop} (step : ∀ t : Tr, (∀ k ∈ t.kids, p k) → p t) (t : Tr) : p t := by
  have : ∀ n, ∀ t : Tr, t.size ≤ n → p t := by
    intro n
    induction n with
    | zero => intro t h; have := t.size_pos; omega
    | succ n ih => intro t h; exact step t fun k hk => ih k (by have := size_kid hk; omega)
  exact this t.size t (Nat.le_refl _)

/-- equality, computed -/
def beq : Tr → Tr → Bool
  | .mk h ks, .mk g ls => h == g && beqs ks ls
where beqs : List Tr → List Tr → Bool
  | [], [] => true
  | a :: as, b :: bs => a.beq b && beqs as bs
  | _, _ => false

theorem beqs_iff {ks : List Tr} (ih : ∀ k ∈ ks, ∀ b, k.beq b = true ↔ k = b) : ∀ ls, beq.beqs ks ls = true ↔ ks = ls := by
  induction ks with
  | nil => intro ls; cases ls <;> simp [beq.beqs]
  | cons a as iha =>
    intro ls
    cases ls with
    | nil => simp [beq.beqs]
    | cons b bs =>
      simp only [beq.beqs, Bool.and_eq_true, List.cons.injEq]
      rw [ih a (by simp), iha (fun k hk => ih k (by simp [hk]))]
theorem beq_iff (a : Tr) : ∀ b, a.beq b = true ↔ a = b := by
  induction a using ind with
  | step t ih =>
    intro b
    cases t with
    | mk h ks =>
      cases b with
      | mk g ls =>
        simp only [beq, Bool.and_eq_true, beq_iff_eq, mk.injEq]
        rw [beqs_iff (ks := ks) (fun k hk => ih k hk)]
instance : DecidableEq Tr := fun a b => decidable_of_iff _ (beq_iff a b)
theorem beq_eq (a b : Tr) : a.beq b = decide (a = b) := by
  rw [Bool.eq_iff_iff, beq_iff]; simp

/-- does the head stand somewhere in the term? -/
def has (v : Int) : Tr → Bool
  | .mk h ks => h == v || hasAny ks
where hasAny : List Tr → Bool
  | [] => false
  | k :: ks => has v k || hasAny ks
theorem hasAny_iff {v : Int} {ks : List Tr} : has.hasAny v ks = true ↔ ∃ k ∈ ks, k.has v = true := by
  induction ks with
  | nil => simp [has.hasAny]
  | cons a as ih => simp [has.hasAny, ih]
theorem has_iff {v : Int} {t : Tr} : t.has v = true ↔ t.head = v ∨ ∃ k ∈ t.kids, k.has v = true := by
  cases t; simp [has, hasAny_iff]

/-- the first pair of kids that part -/
def firstDiff : List Tr → List Tr → Option (Tr × Tr)
  | a :: as, b :: bs => if a = b then firstDiff as bs else some (a, b)
  | _, _ => none

theorem firstDiff_mem {as bs : List Tr} {x y : Tr} (h : firstDiff as bs = some (x, y)) : x ∈ as ∧ y ∈ bs ∧ x ≠ y := by
  induction as generalizing bs with
  | nil => cases bs <;> simp [firstDiff] at h
  | cons a as ih =>
    cases bs with
    | nil => simp [firstDiff] at h
    | cons b bs =>
      simp only [firstDiff] at h
      split at h
      · have := ih h; simp [this]
      · simp only [Option.some.injEq, Prod.mk.injEq] at h; obtain ⟨rfl, rfl⟩ := h; simp [*]
theorem firstDiff_none {as bs : List Tr} (hl : as.length = bs.length) (h : firstDiff as bs = none) : as = bs := by
  induction as generalizing bs with
  | nil => cases bs <;> simp_all
  | cons a as ih =>
    cases bs with
    | nil => simp at hl
    | cons b bs =>
      simp only [firstDiff] at h
      split at h
      · rename_i e; subst e; rw [ih (by simpa using hl) h]
      · cases h
theorem firstDiff_self (as : List Tr) : firstDiff as as = none := by
  induction as with
  | nil => rfl
  | cons a as ih => simp [firstDiff, ih]

theorem firstDiff_symm {as bs : List Tr} {x y : Tr} (h : firstDiff as bs = some (x, y)) : firstDiff bs as = some (y, x) := by
  induction as generalizing bs with
  | nil => cases bs <;> simp [firstDiff] at h
  | cons a as ih =>
    cases bs with
    | nil => simp [firstDiff] at h
    | cons b bs =>
      simp only [firstDiff] at h ⊢
      by_cases e : a = b
      · subst e; rw [if_pos rfl] at h ⊢; exact ih h
      · rw [if_neg e] at h; rw [if_neg (fun h => e h.symm)]
        simp only [Option.some.injEq, Prod.mk.injEq] at h ⊢; exact ⟨h.2, h.1⟩

/-- THE LEXICOGRAPHIC PATH ORDERING, as the document tells it. -/
def above (a b : Tr) : Bool :=
  if a.head < 0 then false
  else if b.head < 0 then a.has b.head
  else if a.kids.attach.any (fun k => decide (k.1 = b) || above k.1 b) then true
  else if b.kids.attach.any (fun k => !above a k.1) then false
  else if a.head ≠ b.head then decide (b.head < a.head)
  else if a.kids.length ≠ b.kids.length then decide (b.kids.length < a.kids.length)
  else match h : firstDiff a.kids b.kids with
    | some (x, y) => above x y
    | none => false
termination_by a.size + b.size
decreasing_by
  · have := size_kid k.2; omega
  · have := size_kid k.2; omega
  · have := firstDiff_mem h; have := size_kid this.1; have := size_kid (firstDiff_mem h).2.1; omega

theorem any_attach {l : List Tr} (p : Tr → Bool) : l.attach.any (fun k => p k.1) = l.any p := by
  rw [List.any_eq, List.any_eq, decide_eq_decide]
  simp

theorem above_eq (a b : Tr) : above a b =
    if a.head < 0 then false
    else if b.head < 0 then a.has b.head
    else if a.kids.any (fun k => decide (k = b) || above k b) then true
    else if b.kids.any (fun k => !above a k) then false
    else if a.head ≠ b.head then decide (b.head < a.head)
    else if a.kids.length ≠ b.kids.length then decide (b.kids.length < a.kids.length)
    else match firstDiff a.kids b.kids with
      | some (x, y) => above x y
      | none => false := by
  rw [above, any_attach (fun k => decide (k = b) || above k b), any_attach (fun k => !above a k)]
  congr 6
  split <;> rename_i h <;> simp [h]

/-- the heads and the numbers of kids: the part of the ordering that looks no deeper -/
def Over (a b : Tr) : Prop := b.head < a.head ∨ (a.head = b.head ∧ (b.kids.length < a.kids.length ∨
  (a.kids.length = b.kids.length ∧ ∃ x y, firstDiff a.kids b.kids = some (x, y) ∧ above x y = true)))

theorem above_iff (a b : Tr) : above a b = true ↔ 0 ≤ a.head ∧
    ((b.head < 0 ∧ a.has b.head = true) ∨
     (0 ≤ b.head ∧ ((∃ k ∈ a.kids, k = b ∨ above k b = true) ∨ ((∀ k ∈ b.kids, above a k = true) ∧ Over a b)))) := by
  rw [above_eq a b]
  by_cases ha : a.head < 0
  · simp [ha]; omega
  · by_cases hb : b.head < 0
    · have h0 : 0 ≤ a.head := by omega
      have h1 : ¬ 0 ≤ b.head := by omega
      simp [ha, hb, h0, h1]
    · rw [if_neg ha, if_neg hb]
      simp only [show (0 ≤ a.head) = True from eq_true (by omega), show (0 ≤ b.head) = True from eq_true (by omega), hb, true_and, false_and, false_or]
      by_cases h1 : (a.kids.any (fun k => decide (k = b) || above k b)) = true
      · rw [if_pos h1]; simp only [true_iff]
        left; simpa using h1
      · rw [if_neg h1]
        have h1' : ¬ ∃ k ∈ a.kids, k = b ∨ above k b = true := by simpa using h1
        simp only [h1', false_or]
        by_cases h2 : (b.kids.any (fun k => !above a k)) = true
        · rw [if_pos h2]
          have : ¬ ∀ k ∈ b.kids, above a k = true := by simpa using h2
          simp [this]
        · rw [if_neg h2]
          have : ∀ k ∈ b.kids, above a k = true := by simpa using h2
          simp only [eq_true this, true_and, Over]
          by_cases h3 : a.head = b.head
          · rw [if_neg (by simp [h3])]
            simp only [h3, Int.lt_irrefl, true_and, false_or]
            by_cases h4 : a.kids.length = b.kids.length
            · rw [if_neg (by simp [h4])]
              simp only [h4, Nat.lt_irrefl, true_and, false_or]
              cases hd : firstDiff a.kids b.kids with
              | none => simp
              | some p => obtain ⟨x, y⟩ := p; simp only [Option.some.injEq, Prod.mk.injEq]; exact ⟨fun h => ⟨x, y, ⟨rfl, rfl⟩, h⟩, by rintro ⟨_, _, ⟨rfl, rfl⟩, h⟩; exact h⟩
            · rw [if_pos (by simpa using h4)]
              simp [h4]
          · rw [if_pos (by simpa using h3)]
            simp [h3]

/-- variables have no kids, hereditarily -/
def leafy : Tr → Bool
  | .mk h ks => (decide (0 ≤ h) || ks.isEmpty) && leafyAll ks
where leafyAll : List Tr → Bool
  | [] => true
  | k :: ks => k.leafy && leafyAll ks
theorem leafyAll_iff {ks : List Tr} : leafy.leafyAll ks = true ↔ ∀ k ∈ ks, k.leafy = true := by
  induction ks with
  | nil => simp [leafy.leafyAll]
  | cons a as ih => simp [leafy.leafyAll, ih]
theorem leafy_iff {t : Tr} : t.leafy = true ↔ (t.head < 0 → t.kids = []) ∧ ∀ k ∈ t.kids, k.leafy = true := by
  cases t with
  | mk h ks =>
    simp only [leafy, Bool.and_eq_true, leafyAll_iff, Bool.or_eq_true, decide_eq_true_eq, List.isEmpty_iff, head_mk, kids_mk]
    constructor
    · rintro ⟨h1, h2⟩; exact ⟨fun h0 => h1.resolve_left (by omega), h2⟩
    · rintro ⟨h1, h2⟩
      refine ⟨?_, h2⟩
      by_cases h0 : 0 ≤ h
      · exact .inl h0
      · exact .inr (h1 (by omega))

theorem above_head {a b : Tr} (h : above a b = true) : 0 ≤ a.head := ((above_iff a b).1 h).1

/-- what stands directly in a term is below it -/
theorem above_kid {a k : Tr} (ha : 0 ≤ a.head) (hk : k ∈ a.kids) : above a k = true := by
  rw [above_iff]
  refine ⟨ha, ?_⟩
  by_cases h0 : k.head < 0
  · exact .inl ⟨h0, has_iff.2 (.inr ⟨k, hk, has_iff.2 (.inl rfl)⟩)⟩
  · exact .inr ⟨by omega, .inl ⟨k, hk, .inl rfl⟩⟩

/-- a variable stands in a term that is above it: it, or what is above it, is a kid -/
theorem above_var {a b : Tr} (hl : a.leafy = true) (hb : b.leafy = true) (h0 : b.head < 0) : above a b = true ↔ 0 ≤ a.head ∧ ∃ k ∈ a.kids, k = b ∨ above k b = true := by
  rw [above_iff]
  have hbk : b.kids = [] := (leafy_iff.1 hb).1 h0
  constructor
  · rintro ⟨ha, ⟨_, h⟩ | ⟨h, _⟩⟩
    · refine ⟨ha, ?_⟩
      rcases has_iff.1 h with h | ⟨k, hk, h⟩
      · omega
      · refine ⟨k, hk, ?_⟩
        have hkl := (leafy_iff.1 hl).2 k hk
        by_cases hk0 : k.head < 0
        · have hkk := (leafy_iff.1 hkl).1 hk0
          left
          rcases has_iff.1 h with h | ⟨_, h, _⟩
          · exact ext' h (by rw [hkk, hbk])
          · rw [hkk] at h; cases h
        · right; rw [above_iff]; exact ⟨by omega, .inl ⟨h0, h⟩⟩
    · omega
  · rintro ⟨ha, k, hk, rfl | h⟩
    · exact ⟨ha, .inl ⟨h0, has_iff.2 (.inr ⟨k, hk, has_iff.2 (.inl rfl)⟩)⟩⟩
    · refine ⟨ha, .inl ⟨h0, has_iff.2 (.inr ⟨k, hk, ?_⟩)⟩⟩
      rcases ((above_iff k b).1 h).2 with h | h
      · exact h.2
      · omega

/-- one law for variables and others: a kid is it, or is above it; or all kids are below and the rest decides -/
theorem above_cases {a b : Tr} (hl : a.leafy = true) (hb : b.leafy = true) : above a b = true ↔ 0 ≤ a.head ∧
    ((∃ k ∈ a.kids, k = b ∨ above k b = true) ∨ (0 ≤ b.head ∧ (∀ k ∈ b.kids, above a k = true) ∧ Over a b)) := by
  by_cases h0 : b.head < 0
  · rw [above_var hl hb h0]
    constructor
    · rintro ⟨h, h'⟩; exact ⟨h, .inl h'⟩
    · rintro ⟨h, h' | h'⟩
      · exact ⟨h, h'⟩
      · omega
  · rw [above_iff]
    have h1 : 0 ≤ b.head := by omega
    simp [h0, h1]

theorem above_sub {a b k : Tr} (hl : a.leafy = true) (hb : b.leafy = true) (hk : k ∈ b.kids) : above a b = true → above a k = true := by
  induction a using ind generalizing b k with
  | step a ih =>
    intro h
    have hkl := (leafy_iff.1 hb).2 k hk
    have hb0 : 0 ≤ b.head := by
      by_cases h0 : b.head < 0
      · have := (leafy_iff.1 hb).1 h0; rw [this] at hk; cases hk
      · omega
    rcases (above_cases hl hb).1 h with ⟨ha, ⟨x, hx, rfl | h'⟩ | ⟨_, h', _⟩⟩
    · rw [above_cases hl hkl]
      exact ⟨ha, .inl ⟨x, hx, .inr (above_kid hb0 hk)⟩⟩
    · rw [above_cases hl hkl]
      exact ⟨ha, .inl ⟨x, hx, .inr (ih x hx ((leafy_iff.1 hl).2 x hx) hb hk h')⟩⟩
    · exact h' k hk

theorem firstDiff_trans {as bs cs : List Tr} {x y u v : Tr} (tr : ∀ a ∈ as, ∀ b ∈ bs, ∀ c ∈ cs, above a b = true → above b c = true → above a c = true)
    (asym : ∀ a ∈ as, ∀ b ∈ bs, a ∈ cs → above a b = true → above b a = true → False)
    (h1 : firstDiff as bs = some (x, y)) (h2 : firstDiff bs cs = some (u, v)) (hx : above x y = true) (hu : above u v = true) :
    ∃ p q, firstDiff as cs = some (p, q) ∧ above p q = true := by
  induction as generalizing bs cs with
  | nil => cases bs <;> simp [firstDiff] at h1
  | cons a as ih =>
    cases bs with
    | nil => simp [firstDiff] at h1
    | cons b bs =>
      cases cs with
      | nil => simp [firstDiff] at h2
      | cons c cs =>
        simp only [firstDiff] at h1 h2
        by_cases hab : a = b
        · subst hab
          rw [if_pos rfl] at h1
          by_cases hbc : a = c
          · subst hbc
            rw [if_pos rfl] at h2
            obtain ⟨p, q, hp, hq⟩ := ih (fun a ha b hb c hc => tr a (by simp [ha]) b (by simp [hb]) c (by simp [hc])) (fun a ha b hb hc => asym a (by simp [ha]) b (by simp [hb]) (by simp [hc])) h1 h2
            exact ⟨p, q, by simp [firstDiff, hp], hq⟩
          · rw [if_neg hbc] at h2
            simp only [Option.some.injEq, Prod.mk.injEq] at h2; obtain ⟨rfl, rfl⟩ := h2
            exact ⟨a, c, by simp [firstDiff, hbc], hu⟩
        · rw [if_neg hab] at h1
          simp only [Option.some.injEq, Prod.mk.injEq] at h1; obtain ⟨rfl, rfl⟩ := h1
          by_cases hbc : b = c
          · subst hbc
            exact ⟨a, b, by simp [firstDiff, hab], hx⟩
          · rw [if_neg hbc] at h2
            simp only [Option.some.injEq, Prod.mk.injEq] at h2; obtain ⟨rfl, rfl⟩ := h2
            have hac := tr a (by simp) b (by simp) c (by simp) hx hu
            have hne : a ≠ c := by rintro rfl; exact asym a (by simp) b (by simp) (by simp) hx hu
            exact ⟨a, c, by simp [firstDiff, hne], hac⟩

theorem above_asymm_of_trans {n : Nat} (tr : ∀ a b c : Tr, a.leafy = true → b.leafy = true → c.leafy = true → a.size + b.size + c.size ≤ n → above a b = true → above b c = true → above a c = true)
    {b : Tr} (hlb : b.leafy = true) : ∀ a : Tr, a.leafy = true → a.size + b.size + a.size ≤ n → above a b = true → above b a = true → False := by
  intro a
  induction a using ind with
  | step a ih =>
    intro hl hs hab hba
    rcases (above_cases hl hl).1 (tr a b a hl hlb hl hs hab hba) with ⟨ha, ⟨k, hk, hk' | h'⟩ | ⟨_, _, h'⟩⟩
    · have := size_kid hk; rw [hk'] at this; omega
    · have hkl := (leafy_iff.1 hl).2 k hk
      have hks := size_kid hk
      exact ih k hk hkl (by omega) (tr k a b hkl hl hlb (by omega) h' hab) (above_sub hlb hl hk hba)
    · rcases h' with h' | ⟨_, h' | ⟨_, x, y, h', _⟩⟩
      · omega
      · omega
      · rw [firstDiff_self] at h'; cases h'

theorem above_trans_of : ∀ n, ∀ a b c : Tr, a.leafy = true → b.leafy = true → c.leafy = true → a.size + b.size + c.size ≤ n → above a b = true → above b c = true → above a c = true := by
  intro n
  induction n with
  | zero => intro a b c _ _ _ h; have := a.size_pos; omega
  | succ n ih =>
    intro a b c hla hlb hlc hs hab hbc
    have kida : ∀ k ∈ a.kids, k.leafy = true ∧ k.size < a.size := fun k hk => ⟨(leafy_iff.1 hla).2 k hk, size_kid hk⟩
    have kidb : ∀ k ∈ b.kids, k.leafy = true ∧ k.size < b.size := fun k hk => ⟨(leafy_iff.1 hlb).2 k hk, size_kid hk⟩
    have kidc : ∀ k ∈ c.kids, k.leafy = true ∧ k.size < c.size := fun k hk => ⟨(leafy_iff.1 hlc).2 k hk, size_kid hk⟩
    rcases (above_cases hla hlb).1 hab with ⟨ha, ⟨k, hk, rfl | h⟩ | ⟨hb, h, hov⟩⟩
    · exact (above_cases hla hlc).2 ⟨ha, .inl ⟨k, hk, .inr hbc⟩⟩
    · exact (above_cases hla hlc).2 ⟨ha, .inl ⟨k, hk, .inr (ih k b c (kida k hk).1 hlb hlc (by have := (kida k hk).2; omega) h hbc)⟩⟩
    · rcases (above_cases hlb hlc).1 hbc with ⟨_, ⟨k, hk, rfl | h'⟩ | ⟨hc, h', hov'⟩⟩
      · exact h k hk
      · exact ih a k c hla (kidb k hk).1 hlc (by have := (kidb k hk).2; omega) (h k hk) h'
      · refine (above_cases hla hlc).2 ⟨ha, .inr ⟨hc, fun k hk => ih a b k hla hlb (kidc k hk).1 (by have := (kidc k hk).2; omega) hab (h' k hk), ?_⟩⟩
        rcases hov with e1 | ⟨e1, e2 | ⟨e2, x, y, hd, hxy⟩⟩
        · rcases hov' with f1 | ⟨f1, _⟩
          · exact .inl (by omega)
          · exact .inl (by omega)
        · rcases hov' with f1 | ⟨f1, f2 | ⟨f2, _⟩⟩
          · exact .inl (by omega)
          · exact .inr ⟨by omega, .inl (by omega)⟩
          · exact .inr ⟨by omega, .inl (by omega)⟩
        · rcases hov' with f1 | ⟨f1, f2 | ⟨f2, u, v, hd', huv⟩⟩
          · exact .inl (by omega)
          · exact .inr ⟨by omega, .inl (by omega)⟩
          · refine .inr ⟨by omega, .inr ⟨by omega, ?_⟩⟩
            refine firstDiff_trans (fun p hp q hq r hr => ih p q r (kida p hp).1 (kidb q hq).1 (kidc r hr).1 (by have := (kida p hp).2; have := (kidb q hq).2; have := (kidc r hr).2; omega)) ?_ hd hd' hxy huv
            intro p hp q hq hr hpq hqp
            exact above_asymm_of_trans ih (kidb q hq).1 p (kida p hp).1 (by have := (kida p hp).2; have := (kidb q hq).2; have := (kidc p hr).2; omega) hpq hqp

theorem above_trans {a b c : Tr} (ha : a.leafy = true) (hb : b.leafy = true) (hc : c.leafy = true) (h : above a b = true) (h' : above b c = true) : above a c = true :=
  above_trans_of _ a b c ha hb hc (Nat.le_refl _) h h'
theorem above_asymm {a b : Tr} (ha : a.leafy = true) (hb : b.leafy = true) (h : above a b = true) (h' : above b a = true) : False :=
  above_asymm_of_trans (fun a b c ha hb hc _ => above_trans ha hb hc) hb a ha (Nat.le_refl _) h h'
theorem above_irrefl {a : Tr} (ha : a.leafy = true) : above a a = false := by
  rw [Bool.eq_false_iff]; exact fun h => above_asymm ha ha h h

/-- no variable in it -/
def ground : Tr → Bool
  | .mk h ks => decide (0 ≤ h) && groundAll ks
where groundAll : List Tr → Bool
  | [] => true
  | k :: ks => k.ground && groundAll ks
theorem groundAll_iff {ks : List Tr} : ground.groundAll ks = true ↔ ∀ k ∈ ks, k.ground = true := by
  induction ks with
  | nil => simp [ground.groundAll]
  | cons a as ih => simp [ground.groundAll, ih]
theorem ground_iff {t : Tr} : t.ground = true ↔ 0 ≤ t.head ∧ ∀ k ∈ t.kids, k.ground = true := by
  cases t; simp [ground, groundAll_iff]
theorem leafy_of_ground {t : Tr} (h : t.ground = true) : t.leafy = true := by
  induction t using ind with
  | step t ih =>
    have := ground_iff.1 h
    exact leafy_iff.2 ⟨fun h0 => by omega, fun k hk => ih k hk (this.2 k hk)⟩

theorem above_total : ∀ n, ∀ a b : Tr, a.ground = true → b.ground = true → a.size + b.size ≤ n → a ≠ b → above a b = true ∨ above b a = true := by
  intro n
  induction n with
  | zero => intro a b _ _ h; have := a.size_pos; omega
  | succ n ih =>
    intro a b ha hb hs hne
    have la := leafy_of_ground ha
    have lb := leafy_of_ground hb
    have ka : ∀ k ∈ a.kids, k.ground = true ∧ k.size < a.size := fun k hk => ⟨(ground_iff.1 ha).2 k hk, size_kid hk⟩
    have kb : ∀ k ∈ b.kids, k.ground = true ∧ k.size < b.size := fun k hk => ⟨(ground_iff.1 hb).2 k hk, size_kid hk⟩
    by_cases h1 : ∃ k ∈ a.kids, k = b ∨ above k b = true
    · exact .inl ((above_cases la lb).2 ⟨(ground_iff.1 ha).1, .inl h1⟩)
    · by_cases h2 : ∃ k ∈ b.kids, k = a ∨ above k a = true
      · exact .inr ((above_cases lb la).2 ⟨(ground_iff.1 hb).1, .inl h2⟩)
      · have g1 : ∀ k ∈ a.kids, above b k = true := fun k hk => by
          have hn : k ≠ b := fun e => h1 ⟨k, hk, .inl e⟩
          rcases ih k b (ka k hk).1 hb (by have := (ka k hk).2; omega) hn with h | h
          · exact absurd ⟨k, hk, .inr h⟩ h1
          · exact h
        have g2 : ∀ k ∈ b.kids, above a k = true := fun k hk => by
          have hn : k ≠ a := fun e => h2 ⟨k, hk, .inl e⟩
          rcases ih k a (kb k hk).1 ha (by have := (kb k hk).2; omega) hn with h | h
          · exact absurd ⟨k, hk, .inr h⟩ h2
          · exact h
        have mka : Over a b → above a b = true := fun h => (above_cases la lb).2 ⟨(ground_iff.1 ha).1, .inr ⟨(ground_iff.1 hb).1, g2, h⟩⟩
        have mkb : Over b a → above b a = true := fun h => (above_cases lb la).2 ⟨(ground_iff.1 hb).1, .inr ⟨(ground_iff.1 ha).1, g1, h⟩⟩
        rcases Int.lt_trichotomy a.head b.head with h | h | h
        · exact .inr (mkb (.inl h))
        · rcases Nat.lt_trichotomy a.kids.length b.kids.length with l | l | l
          · exact .inr (mkb (.inr ⟨h.symm, .inl l⟩))
          · cases hd : firstDiff a.kids b.kids with
            | none => exact absurd (ext' h (firstDiff_none l hd)) hne
            | some p =>
              obtain ⟨x, y⟩ := p
              have hm := firstDiff_mem hd
              rcases ih x y (ka x hm.1).1 (kb y hm.2.1).1 (by have := (ka x hm.1).2; have := (kb y hm.2.1).2; omega) hm.2.2 with g | g
              · exact .inl (mka (.inr ⟨h, .inr ⟨l, x, y, hd, g⟩⟩))
              · exact .inr (mkb (.inr ⟨h.symm, .inr ⟨l.symm, y, x, firstDiff_symm hd, g⟩⟩))
          · exact .inl (mka (.inr ⟨h, .inl l⟩))
        · exact .inl (mka (.inl h))
end Tr
end Um
