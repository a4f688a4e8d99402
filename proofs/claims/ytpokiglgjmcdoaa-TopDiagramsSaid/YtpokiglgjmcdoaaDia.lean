/-
  Decision diagrams, in plain Lean: what the builder makes of a table, that it is a diagram, and what it evaluates to.
-/
set_option linter.unusedVariables false
set_option linter.unusedSimpArgs false
namespace Um.Dia

structure Ch where
  v : Nat
  lo : Nat
  hi : Nat
  deriving DecidableEq, Inhabited

abbrev St := List Ch × (List Nat → Option Nat)
def put (f : List Nat → Option Nat) (t : List Nat) (i : Nat) : List Nat → Option Nat := fun u => if u = t then some i else f u
/-- the place of a choice -/
def known (cs : List Ch) (c : Ch) : Option Nat := (cs.idxOf? c).map (· + 2)
def node : Nat → List Nat → Nat → St → Nat × St
  | 0, t, _, s => (t.headD 0, s)
  | m + 1, t, v, s =>
    match s.2 t with
    | some i => (i, s)
    | none =>
      let r1 := node m (t.take (2 ^ m)) (v + 1) s
      let r2 := node m (t.drop (2 ^ m)) (v + 1) r1.2
      if r1.1 = r2.1 then (r1.1, (r2.2.1, put r2.2.2 t r1.1))
      else match known r2.2.1 ⟨v, r1.1, r2.1⟩ with
        | some j => (j, (r2.2.1, put r2.2.2 t j))
        | none => (r2.2.1.length + 2, (r2.2.1 ++ [⟨v, r1.1, r2.1⟩], put r2.2.2 t (r2.2.1.length + 2)))

def lev (cs : List Ch) (i : Nat) : Nat := if i < 2 then 17 else (cs.getD (i - 2) default).v
/-- the choices are those of a diagram -/
structure WF (n : Nat) (cs : List Ch) : Prop where
  at_ : ∀ (j : Nat) (c : Ch), cs[j]? = some c → 1 ≤ c.v ∧ c.v ≤ n ∧ c.lo < j + 2 ∧ c.hi < j + 2 ∧ c.lo ≠ c.hi ∧ c.v < lev cs c.lo ∧ c.v < lev cs c.hi
  once : cs.Nodup

def val (cs : List Ch) (a : Nat → Bool) : Nat → Nat → Bool
  | 0, i => i == 1
  | f + 1, i => if i < 2 then i == 1 else val cs a f (if a (cs.getD (i - 2) default).v then (cs.getD (i - 2) default).hi else (cs.getD (i - 2) default).lo)
def tsem : Nat → List Nat → Nat → (Nat → Bool) → Bool
  | 0, t, _, _ => t.headD 0 == 1
  | m + 1, t, v, a => if a v then tsem m (t.drop (2 ^ m)) (v + 1) a else tsem m (t.take (2 ^ m)) (v + 1) a

theorem lev_append {cs : List Ch} (new : List Ch) {i : Nat} (h : i < cs.length + 2) : lev (cs ++ new) i = lev cs i := by
  unfold lev
  split
  · rfl
  · rw [List.getD_eq_getElem?_getD, List.getD_eq_getElem?_getD, List.getElem?_append_left (by omega)]

theorem val_small {cs : List Ch} {a : Nat → Bool} {f i : Nat} (h : i < 2) : val cs a f i = (i == 1) := by
  cases f <;> simp [val, h]
theorem val_step {cs : List Ch} {a : Nat → Bool} {f i : Nat} {c : Ch} (h : 2 ≤ i) (hc : cs[i - 2]? = some c) : val cs a (f + 1) i = val cs a f (if a c.v then c.hi else c.lo) := by
  rw [val, if_neg (by omega), List.getD_eq_getElem?_getD, hc]; rfl
theorem val_fuel {n : Nat} {cs : List Ch} (h : WF n cs) (a : Nat → Bool) : ∀ (i f : Nat), i < cs.length + 2 → i ≤ f → ∀ g, i ≤ g → val cs a f i = val cs a g i := by
  intro i
  induction i using Nat.strongRecOn with
  | ind i ih =>
    intro f hi hf g hg
    by_cases h2 : i < 2
    · rw [val_small h2, val_small h2]
    · obtain ⟨c, hc⟩ : ∃ c, cs[i - 2]? = some c := ⟨_, List.getElem?_eq_getElem (by omega)⟩
      obtain ⟨_, _, h3, h4, _⟩ := h.at_ _ _ hc
      obtain ⟨f, rfl⟩ : ∃ f', f = f' + 1 := ⟨f - 1, by omega⟩
      obtain ⟨g, rfl⟩ : ∃ g', g = g' + 1 := ⟨g - 1, by omega⟩
      rw [val_step (by omega) hc, val_step (by omega) hc]
      split
      · exact ih _ (by omega) _ (by omega) (by omega) _ (by omega)
      · exact ih _ (by omega) _ (by omega) (by omega) _ (by omega)
theorem val_append {n : Nat} {cs : List Ch} (h : WF n cs) (new : List Ch) (a : Nat → Bool) : ∀ (i f : Nat), i < cs.length + 2 → val (cs ++ new) a f i = val cs a f i := by
  intro i
  induction i using Nat.strongRecOn with
  | ind i ih =>
    intro f hi
    by_cases h2 : i < 2
    · rw [val_small h2, val_small h2]
    · obtain ⟨c, hc⟩ : ∃ c, cs[i - 2]? = some c := ⟨_, List.getElem?_eq_getElem (by omega)⟩
      obtain ⟨_, _, h3, h4, _⟩ := h.at_ _ _ hc
      cases f with
      | zero => rfl
      | succ f =>
        rw [val_step (by omega) hc, val_step (by omega) (by rw [List.getElem?_append_left (by omega)]; exact hc)]
        split
        · exact ih _ (by omega) _ (by omega)
        · exact ih _ (by omega) _ (by omega)

/-- what a node stands for -/
def Rep (cs : List Ch) (m : Nat) (t : List Nat) (v i : Nat) : Prop := ∀ a, val cs a i i = tsem m t v a

/-- the builder's state -/
structure Inv (n : Nat) (s : St) : Prop where
  wf : WF n s.1
  seen : ∀ t i, s.2 t = some i → ∃ m, t.length = 2 ^ m ∧ m ≤ n ∧ i < s.1.length + 2 ∧ n + 1 - m ≤ lev s.1 i ∧ Rep s.1 m t (n + 1 - m) i

theorem Rep.append {n : Nat} {cs : List Ch} (h : WF n cs) (new : List Ch) {m : Nat} {t : List Nat} {v i : Nat} (hi : i < cs.length + 2) (r : Rep cs m t v i) : Rep (cs ++ new) m t v i :=
  fun a => (val_append h new a i i hi).trans (r a)

theorem known_some {cs : List Ch} {c : Ch} {j : Nat} (h : known cs c = some j) : 2 ≤ j ∧ cs[j - 2]? = some c := by
  unfold known at h
  cases hk : cs.idxOf? c with
  | none => rw [hk] at h; cases h
  | some k =>
    rw [hk] at h
    simp at h
    subst h
    obtain ⟨h1, h2, _⟩ := List.findIdx?_eq_some_iff_getElem.1 (by simpa [List.idxOf?] using hk)
    refine ⟨by omega, ?_⟩
    rw [Nat.add_sub_cancel, List.getElem?_eq_getElem h1]
    simp at h2; rw [h2]
theorem known_none {cs : List Ch} {c : Ch} (h : known cs c = none) : c ∉ cs := by
  unfold known at h
  simp at h
  exact h
theorem known_at {n : Nat} {cs : List Ch} (h : WF n cs) {c : Ch} {k : Nat} (hk : cs[k]? = some c) : known cs c = some (k + 2) := by
  cases hn : known cs c with
  | none => exact absurd (List.mem_of_getElem? hk) (known_none hn)
  | some j =>
    obtain ⟨h1, h2⟩ := known_some hn
    obtain ⟨p1, p2⟩ := List.getElem?_eq_some_iff.1 hk
    obtain ⟨q1, q2⟩ := List.getElem?_eq_some_iff.1 h2
    have hp := List.pairwise_iff_getElem.1 h.once
    rcases Nat.lt_trichotomy k (j - 2) with hl | hl | hl
    · exact absurd (p2.trans q2.symm) (hp _ _ p1 q1 hl)
    · congr 1; omega
    · exact absurd (q2.trans p2.symm) (hp _ _ q1 p1 hl)

/-- the traversal: what comes next -/
def visit (cs : List Ch) : Nat → Nat → Nat → Option Nat
  | 0, _, _ => none
  | f + 1, i, nx =>
    if i < 2 ∨ i < nx then some nx
    else (visit cs f (cs.getD (i - 2) default).lo nx).bind fun n1 => (visit cs f (cs.getD (i - 2) default).hi n1).bind fun n2 => if i = n2 then some (n2 + 1) else none

theorem visit_step {CS : List Ch} {f i nx n1 n2 : Nat} {c : Ch} (h2 : 2 ≤ i) (hx : nx ≤ i) (hc : CS[i - 2]? = some c) (h1 : visit CS f c.lo nx = some n1) (h3 : visit CS f c.hi n1 = some n2) (hi : i = n2) : visit CS (f + 1) i nx = some (n2 + 1) := by
  rw [visit, if_neg (by omega), List.getD_eq_getElem?_getD, hc]
  simp [h1, h3, hi]

/-- what a node's making achieves -/
structure Made (n m : Nat) (t : List Nat) (v : Nat) (s : St) (i : Nat) (s' : St) : Prop where
  new : ∃ new, s'.1 = s.1 ++ new ∧ ∀ c ∈ new, v ≤ c.v
  lt : i < s'.1.length + 2
  lev : v ≤ lev s'.1 i
  old : i < s.1.length + 2 → s'.1 = s.1
  inv : Inv n s'
  rep : Rep s'.1 m t v i
  dfs : ∀ CS rest, CS = s'.1 ++ rest → ∃ f, ∀ g, f ≤ g → visit CS g i (s.1.length + 2) = some (s'.1.length + 2)

theorem visit_mono {CS : List Ch} : ∀ {f g i nx r : Nat}, f ≤ g → visit CS f i nx = some r → visit CS g i nx = some r := by
  intro f
  induction f with
  | zero => intro g i nx r _ h; cases h
  | succ f ih =>
    intro g i nx r hg h
    obtain ⟨g, rfl⟩ : ∃ g', g = g' + 1 := ⟨g - 1, by omega⟩
    rw [visit] at h ⊢
    split at h
    · rw [if_pos (by assumption)]; exact h
    · rw [if_neg (by assumption)]
      cases h1 : visit CS f (CS.getD (i - 2) default).lo nx with
      | none => rw [h1] at h; cases h
      | some n1 =>
        rw [h1] at h
        rw [ih (by omega) h1]
        simp only [Option.bind_some] at h ⊢
        cases h2 : visit CS f (CS.getD (i - 2) default).hi n1 with
        | none => rw [h2] at h; cases h
        | some n2 => rw [h2] at h; rw [ih (by omega) h2]; exact h

theorem node_made (n : Nat) : ∀ (m : Nat) (t : List Nat) (v : Nat) (s : St), v + m = n + 1 → n ≤ 16 → t.length = 2 ^ m → (∀ x ∈ t, x < 2) → 1 ≤ v → Inv n s → Made n m t v s (node m t v s).1 (node m t v s).2 := by
  intro m
  induction m with
  | zero =>
    intro t v s hv hn ht hx hv1 hs
    obtain ⟨x, rfl⟩ : ∃ x, t = [x] := by
      match t, ht with
      | [x], _ => exact ⟨x, rfl⟩
    have hx2 : x < 2 := hx x (by simp)
    refine ⟨⟨[], by simp [node], by simp⟩, by simp [node]; omega, ?_, fun _ => rfl, hs, ?_, ?_⟩
    · show v ≤ Dia.lev s.1 x
      unfold Dia.lev; rw [if_pos hx2]; omega
    · intro a; rw [val_small (by simpa [node] using hx2)]; simp [node, tsem]
    · intro CS rest _
      refine ⟨1, fun g hg => ?_⟩
      obtain ⟨g, rfl⟩ : ∃ g', g = g' + 1 := ⟨g - 1, by omega⟩
      rw [visit, if_pos (.inl (by simpa [node] using hx2))]; rfl
  | succ m ih =>
    intro t v s hv hn ht hx hv1 hs
    rw [node]
    cases hsn : s.2 t with
    | some i =>
      obtain ⟨m', h1, h2, h3, h4, h5⟩ := hs.seen t i hsn
      obtain rfl : m' = m + 1 := (Nat.pow_right_inj (by decide : 1 < 2)).1 (h1.symm.trans ht)
      have e : n + 1 - (m + 1) = v := by omega
      rw [e] at h4 h5
      refine ⟨⟨[], by simp, by simp⟩, h3, h4, fun _ => rfl, hs, h5, ?_⟩
      intro CS rest _
      refine ⟨1, fun g hg => ?_⟩
      obtain ⟨g, rfl⟩ : ∃ g', g = g' + 1 := ⟨g - 1, by omega⟩
      rw [visit, if_pos (.inr h3)]
    | none =>
      simp only
      have ht2 : t.length = 2 ^ m + 2 ^ m := by rw [ht, Nat.pow_succ]; omega
      have m1 := ih (t.take (2 ^ m)) (v + 1) s (by omega) hn (by rw [List.length_take]; omega) (fun x hm => hx x (List.mem_of_mem_take hm)) (by omega) hs
      generalize node m (t.take (2 ^ m)) (v + 1) s = r1 at *
      have m2 := ih (t.drop (2 ^ m)) (v + 1) r1.2 (by omega) hn (by rw [List.length_drop]; omega) (fun x hm => hx x (List.mem_of_mem_drop hm)) (by omega) m1.inv
      generalize node m (t.drop (2 ^ m)) (v + 1) r1.2 = r2 at *
      obtain ⟨new1, e1, l1⟩ := m1.new
      obtain ⟨new2, e2, l2⟩ := m2.new
      have hlen1 : s.1.length ≤ r1.2.1.length := by rw [e1]; simp
      have hlen2 : r1.2.1.length ≤ r2.2.1.length := by rw [e2]; simp
      have rep1 : Rep r2.2.1 m (t.take (2 ^ m)) (v + 1) r1.1 := by rw [e2]; exact m1.rep.append m1.inv.wf new2 m1.lt
      have lev1 : v + 1 ≤ Dia.lev r2.2.1 r1.1 := by rw [e2, lev_append _ m1.lt]; exact m1.lev
      have lt1 : r1.1 < r2.2.1.length + 2 := by have := m1.lt; omega
      have put_seen : ∀ (cs : List Ch) (i : Nat), (∃ rest, cs = r2.2.1 ++ rest) → i < cs.length + 2 → v ≤ Dia.lev cs i → Rep cs (m + 1) t v i → WF n cs → Inv n (cs, put r2.2.2 t i) := by
        rintro cs i ⟨rest, rfl⟩ h1 h2 h3 h4
        refine ⟨h4, fun u j hu => ?_⟩
        simp only [put] at hu
        split at hu
        · rename_i he; subst he; cases hu
          exact ⟨m + 1, ht, by omega, h1, by rw [show n + 1 - (m + 1) = v from by omega]; exact h2, by rw [show n + 1 - (m + 1) = v from by omega]; exact h3⟩
        · obtain ⟨m', g1, g2, g3, g4, g5⟩ := m2.inv.seen u j hu
          refine ⟨m', g1, g2, ?_, ?_, g5.append m2.inv.wf rest g3⟩
          · simp only [List.length_append]; omega
          · rw [lev_append _ g3]; exact g4
      have dfs2 : ∀ CS rest, CS = r2.2.1 ++ rest → ∃ f, ∀ g, f ≤ g → visit CS g r1.1 (s.1.length + 2) = some (r1.2.1.length + 2) ∧ visit CS g r2.1 (r1.2.1.length + 2) = some (r2.2.1.length + 2) := by
        intro CS rest hCS
        obtain ⟨f1, g1⟩ := m1.dfs CS (new2 ++ rest) (by rw [hCS, e2, List.append_assoc])
        obtain ⟨f2, g2⟩ := m2.dfs CS rest hCS
        exact ⟨max f1 f2, fun g hg => ⟨g1 g (by omega), g2 g (by omega)⟩⟩
      split
      · -- both halves are one node
        rename_i he
        have hold : r1.1 < r1.2.1.length + 2 := m1.lt
        have e3 : r2.2.1 = r1.2.1 := m2.old (by rw [← he]; exact hold)
        have hrep : Rep r2.2.1 (m + 1) t v r1.1 := by
          intro a
          rw [tsem]
          split
          · rw [he]; exact m2.rep a
          · exact rep1 a
        refine ⟨⟨new1 ++ new2, by simp only; rw [e2, e1, List.append_assoc], ?_⟩, lt1, by simp only; omega, ?_, put_seen _ _ ⟨[], by simp⟩ lt1 (by omega) hrep m2.inv.wf, hrep, ?_⟩
        · intro c hc
          rcases List.mem_append.1 hc with h | h
          · have := l1 c h; omega
          · have := l2 c h; omega
        · intro h; simp only; rw [e3]; exact m1.old h
        · intro CS rest hCS
          obtain ⟨f, hf⟩ := dfs2 CS rest hCS
          refine ⟨f, fun g hg => ?_⟩
          simp only
          rw [(hf g hg).1, e3]
      · rename_i hne
        have wf2 := m2.inv.wf
        cases hk : known r2.2.1 ⟨v, r1.1, r2.1⟩ with
        | some j =>
          simp only
          obtain ⟨hj2, hj⟩ := known_some hk
          obtain ⟨_, _, b1, b2, _⟩ := wf2.at_ _ _ hj
          simp only at b1 b2
          have hjl : j - 2 < r2.2.1.length := (List.getElem?_eq_some_iff.1 hj).1
          -- it was there before the halves
          have hjs : j - 2 < s.1.length := by
            by_cases hjs : j - 2 < s.1.length
            · exact hjs
            · exfalso
              have hmem : (⟨v, r1.1, r2.1⟩ : Ch) ∈ new1 ++ new2 := by
                rw [e2, e1, List.append_assoc, List.getElem?_append_right (by omega)] at hj
                exact List.mem_of_getElem? hj
              rcases List.mem_append.1 hmem with h | h
              · have := l1 _ h; simp only at this; omega
              · have := l2 _ h; simp only at this; omega
          have o1 : r1.2.1 = s.1 := m1.old (by omega)
          have o2 : r2.2.1 = r1.2.1 := m2.old (by rw [o1]; omega)
          have hrep : Rep r2.2.1 (m + 1) t v j := by
            intro a
            have : ∃ f, j = f + 1 := ⟨j - 1, by omega⟩
            rw [tsem, val_fuel wf2 a j j (by omega) (Nat.le_refl _) (j + 1) (by omega), val_step hj2 hj]
            split
            · exact (val_fuel wf2 a r2.1 j (by omega) (by omega) r2.1 (Nat.le_refl _)).trans (m2.rep a)
            · exact (val_fuel wf2 a r1.1 j (by omega) (by omega) r1.1 (Nat.le_refl _)).trans (rep1 a)
          have hlev : v ≤ Dia.lev r2.2.1 j := by
            rw [Dia.lev, if_neg (by omega), List.getD_eq_getElem?_getD, hj]; exact Nat.le_refl _
          refine ⟨⟨[], by simp only; rw [o2, o1]; simp, by simp⟩, by simp only; omega, hlev, fun _ => by simp only; rw [o2, o1], put_seen _ _ ⟨[], by simp⟩ (by omega) hlev hrep wf2, hrep, ?_⟩
          intro CS rest _
          refine ⟨1, fun g hg => ?_⟩
          obtain ⟨g, rfl⟩ : ∃ g', g = g' + 1 := ⟨g - 1, by omega⟩
          simp only
          rw [visit, if_pos (.inr (by omega)), o2, o1]
        | none =>
          simp only
          have hnot := known_none hk
          have hi2 : r2.1 < r2.2.1.length + 2 := m2.lt
          have hat : (r2.2.1 ++ [(⟨v, r1.1, r2.1⟩ : Ch)])[r2.2.1.length + 2 - 2]? = some ⟨v, r1.1, r2.1⟩ := by simp
          have wf3 : WF n (r2.2.1 ++ [⟨v, r1.1, r2.1⟩]) := by
            refine ⟨?_, ?_⟩
            · intro k c hc
              rw [List.getElem?_append] at hc
              split at hc
              · rename_i hlt
                obtain ⟨q1, q2, q3, q4, q5, q6, q7⟩ := wf2.at_ k c hc
                exact ⟨q1, q2, q3, q4, q5, by rw [lev_append _ (by omega)]; exact q6, by rw [lev_append _ (by omega)]; exact q7⟩
              · rename_i hge
                have hk0 : k = r2.2.1.length := by
                  have := (List.getElem?_eq_some_iff.1 hc).1; simp at this; omega
                subst hk0
                simp at hc
                subst hc
                refine ⟨hv1, by simp only; omega, by simp only; omega, by simp only; omega, hne, ?_, ?_⟩
                · simp only; rw [lev_append _ lt1]; omega
                · simp only; rw [lev_append _ hi2]; have := m2.lev; omega
            · rw [List.nodup_append]
              refine ⟨wf2.once, by simp, ?_⟩
              intro a ha b hb
              simp at hb
              subst hb
              rintro rfl
              exact hnot ha
          have hlt : r2.2.1.length + 2 < (r2.2.1 ++ [(⟨v, r1.1, r2.1⟩ : Ch)]).length + 2 := by simp
          have hrep : Rep (r2.2.1 ++ [⟨v, r1.1, r2.1⟩]) (m + 1) t v (r2.2.1.length + 2) := by
            intro a
            rw [tsem, val_fuel wf3 a _ _ hlt (Nat.le_refl _) (r2.2.1.length + 2 + 1) (by omega), val_step (by omega) hat]
            split
            · exact ((val_fuel wf3 a r2.1 _ (by omega) (by omega) r2.1 (Nat.le_refl _)).trans (val_append wf2 _ a _ _ hi2)).trans (m2.rep a)
            · exact ((val_fuel wf3 a r1.1 _ (by omega) (by omega) r1.1 (Nat.le_refl _)).trans (val_append wf2 _ a _ _ lt1)).trans (rep1 a)
          have hlev : v ≤ Dia.lev (r2.2.1 ++ [⟨v, r1.1, r2.1⟩]) (r2.2.1.length + 2) := by
            rw [Dia.lev, if_neg (by omega), List.getD_eq_getElem?_getD, hat]; exact Nat.le_refl _
          refine ⟨⟨new1 ++ (new2 ++ [⟨v, r1.1, r2.1⟩]), by simp only; rw [e2, e1]; simp, ?_⟩, hlt, hlev, fun h => by exfalso; omega, put_seen _ _ ⟨_, rfl⟩ hlt hlev hrep wf3, hrep, ?_⟩
          · intro c hc
            rcases List.mem_append.1 hc with h | h
            · have := l1 c h; omega
            · rcases List.mem_append.1 h with h | h
              · have := l2 c h; omega
              · simp at h; subst h; exact Nat.le_refl _
          · intro CS rest hCS
            obtain ⟨f, hf⟩ := dfs2 CS (⟨v, r1.1, r2.1⟩ :: rest) (by rw [hCS]; simp)
            refine ⟨f + 1, fun g hg => ?_⟩
            obtain ⟨g, rfl⟩ : ∃ g', g = g' + 1 := ⟨g - 1, by omega⟩
            obtain ⟨h1, h2⟩ := hf g (by omega)
            have hc : CS[r2.2.1.length + 2 - 2]? = some ⟨v, r1.1, r2.1⟩ := by
              rw [hCS, List.getElem?_append_left (by simp)]; exact hat
            rw [visit_step (by omega) (by omega) hc h1 h2 rfl]
            simp

/-- the diagram of a table -/
def built (n : Nat) (t : List Nat) : List Ch × Nat := let r := node n t 1 ([], fun _ => none); (r.2.1, r.1)
theorem inv_start (n : Nat) : Inv n ([], fun _ => none) := ⟨⟨by simp, by simp⟩, by simp⟩
theorem built_made {n : Nat} {t : List Nat} (hn : n ≤ 16) (ht : t.length = 2 ^ n) (hx : ∀ x ∈ t, x < 2) : Made n n t 1 ([], fun _ => none) (built n t).2 ((built n t).1, (node n t 1 ([], fun _ => none)).2.2) :=
  node_made n n t 1 _ (by omega) hn ht hx (Nat.le_refl _) (inv_start n)

theorem mod_succ (k m : Nat) : k % 2 ^ (m + 1) = k % 2 ^ m + 2 ^ m * (k.testBit m).toNat := by
  rw [Nat.mod_pow_succ, Nat.toNat_testBit]
/-- a table's entry is what it says at the assignment of that number -/
theorem tsem_at (n : Nat) : ∀ (m : Nat) (t : List Nat) (v k : Nat), v + m = n + 1 → t.length = 2 ^ m → tsem m t v (fun u => k.testBit (n - u)) = (t.getD (k % 2 ^ m) 0 == 1) := by
  intro m
  induction m with
  | zero =>
    intro t v k hv ht
    match t, ht with
    | [x], _ => simp [tsem, Nat.mod_one]
  | succ m ih =>
    intro t v k hv ht
    have ht2 : t.length = 2 ^ m + 2 ^ m := by rw [ht, Nat.pow_succ]; omega
    have hlt : k % 2 ^ m < 2 ^ m := Nat.mod_lt _ (Nat.two_pow_pos m)
    rw [tsem, show n - v = m from by omega, mod_succ]
    cases hb : k.testBit m with
    | true =>
      rw [if_pos rfl, ih _ _ _ (by omega) (by rw [List.length_drop]; omega)]
      simp only [List.getD_eq_getElem?_getD, List.getElem?_drop, Bool.toNat_true, Nat.mul_one]
      rw [Nat.add_comm (2 ^ m)]
    | false =>
      rw [if_neg (by simp), ih _ _ _ (by omega) (by rw [List.length_take]; omega)]
      simp only [List.getD_eq_getElem?_getD, Bool.toNat_false, Nat.mul_zero, Nat.add_zero]
      rw [List.getElem?_take, if_pos hlt]
/-- the assignment of a number -/
def asg (n k : Nat) : Nat → Bool := fun u => k.testBit (n - u)
theorem built_val {n : Nat} {t : List Nat} (hn : n ≤ 16) (ht : t.length = 2 ^ n) (hx : ∀ x ∈ t, x < 2) {k : Nat} (hk : k < 2 ^ n) : val (built n t).1 (asg n k) (built n t).2 (built n t).2 = (t.getD k 0 == 1) := by
  have h := (built_made hn ht hx).rep (asg n k)
  simp only at h
  rw [h]
  have := tsem_at n n t 1 k (by omega) ht
  rw [Nat.mod_eq_of_lt hk] at this
  exact this
/-- of n variables there are at most 2 ^ n - 1 choices -/
theorem node_count : ∀ (m : Nat) (t : List Nat) (v : Nat) (s : St), (node m t v s).2.1.length + 1 ≤ s.1.length + 2 ^ m := by
  intro m
  induction m with
  | zero => intro t v s; simp [node]
  | succ m ih =>
    intro t v s
    rw [node]
    have hp := Nat.two_pow_pos m
    split
    · simp only [Nat.pow_succ]; omega
    · simp only
      have h1 := ih (t.take (2 ^ m)) (v + 1) s
      generalize node m (t.take (2 ^ m)) (v + 1) s = r1 at *
      have h2 := ih (t.drop (2 ^ m)) (v + 1) r1.2
      generalize node m (t.drop (2 ^ m)) (v + 1) r1.2 = r2 at *
      rw [Nat.pow_succ]
      split
      · simp only; omega
      · split <;> simp only [List.length_append, List.length_cons, List.length_nil] <;> omega
end Um.Dia
