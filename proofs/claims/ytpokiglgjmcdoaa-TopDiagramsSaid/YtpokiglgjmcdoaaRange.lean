/-
  A range over a function, at the wide fence: a law in which the iterator hands over what lies in memory, and the caller's state is counted by rounds. No function of the program in sight.
-/
import Derived.Test.YtpokiglgjmcdoaaMem
import Derived.RangeFuncNested
import Derived.RangeFuncBound
import Derived.RangeFuncCalls
import Derived.RangeFuncLeaves
import Derived.Deep.RegionLaw
import Derived.Deep.RegionLawGrows
import Derived.Shelf.Abstract
set_option linter.unusedVariables false
set_option linter.unusedSimpArgs false
namespace Um
open Go Go.RowKit

theorem Keeps.putObj {S : Nat → Prop} {a w : World} (h : Keeps S a w) {r : Nat} (o : Obj) (hr : ∀ k, S k → k < a.heap.size → k ≠ r) : Keeps S a (w.putObj r o) :=
  ⟨h.os, h.tape, h.output, by simp [h.size], fun k hk hl => (World.putObj_heap_other (hr k hk hl)).trans (h.block k hk hl)⟩

/-- THE ITERATOR's CONTRACT: it hands the elements over one behind the other, each as H says; a round that goes on must keep the blocks of T and those that the iterator makes itself. -/
def Iter (P : Program) (gf : Nat) (lb : Array Value) (H : Nat → Array Value → World → Prop) (T : Nat → Prop) (N : Nat) (w : World) : Prop :=
  ∀ (l : Nat) (G : Nat → World → Prop) (D : World → Prop) (W : World), Keeps T w W →
    (∀ k A B, G k A → Same A B → G k B) → (∀ A B, D A → Same A B → D B) →
    (∀ k args A, k < N → G k A → H k args A → W.heap.size ≤ A.heap.size → YieldAt Fence.wide 0 P l args A fun e B =>
      (e = .returned (.bool true) ∧ G (k + 1) B ∧ Keeps (fun b => T b ∨ W.heap.size ≤ b) A B) ∨ (e = .returned (.bool false) ∧ D B)) →
    G 0 W → CallsIn Fence.wide 0 P gf (#[.func (.yield l) #[] #[]] ++ lb) W fun e B => (∃ v, e = .returned v) ∧ (G N B ∨ D B)

/-- what a round's body must achieve, from the world A on -/
def roundQ (B0 : Nat) (T : Nat → Prop) (J : World → Prop) (Jx : Code → World → Prop) (A : World) : Exit → Act → World → Prop
  | .normal, _, B => Keeps (fun b => T b ∨ B0 ≤ b) A B ∧ J B
  | .ret, _, B => Keeps (fun b => B0 ≤ b) A B ∧ Jx .ret B
  | .exit id, _, B => Keeps (fun b => B0 ≤ b) A B ∧ Jx (.exit id) B
  | .goto t, _, B => Keeps (fun b => B0 ≤ b) A B ∧ Jx (.goto t) B
  | .panic _, _, _ => False
  | .outgrown, _, _ => False

theorem wp_range {P : Program} {g : Operand} {ps : Array Tmp} {assign body : Code} {Q : Exit → Act → World → Prop} {a : Act} {w : World}
    {gf : Nat} {lb : Array Value} (hg : a.eval g = .func (.func gf) #[] lb) (eg : ∀ args w, (callFunc gf args).run P w = .ok (.enter gf args) w)
    {H : Nat → Array Value → World → Prop} {T : Nat → Prop} {N : Nat} (hseq : Iter P gf lb H T N w) (hT : ∀ b, T b → b < w.heap.size)
    (J : Nat → World → Prop) (Jx : Code → World → Prop) (hJ : ∀ k A B, J k A → Keeps (fun b => b < w.heap.size) A B → J k B) (hJx : ∀ c A B, Jx c A → Keeps (fun b => b < w.heap.size) A B → Jx c B) (h0 : J 0 w)
    (hround : ∀ k args A, k < N → J k A → H k args A → w.heap.size + 1 < A.heap.size → args.size = ps.size ∧
      assign.wpIn (Fence.wide.inRound (w.heap.size + 1)) 0 P (Exit.then (fun a₁ A₁ => Keeps (fun b => T b ∨ w.heap.size ≤ b) A A₁ ∧
        ∀ A₂, Keeps (fun b => b ≠ w.heap.size + 1) A₁ A₂ → body.wpIn (Fence.wide.inRound (w.heap.size + 1)) 0 P (roundQ w.heap.size T (J (k + 1)) Jx A₂) a₁ A₂) (fun _ _ _ => False))
        { tmps := (ps.zip args).foldl (fun t (p, v) => t.setIfInBounds p v) a.tmps, defers := [] } A)
    (hdone : ∀ B, J N B → w.heap.size + 1 < B.heap.size → B.heap[w.heap.size]? = some (.deferred (some [])) → Q .normal { a with defers := { target := .collected w.heap.size, args := #[] } :: a.defers } B)
    (hstop : ∀ c B, Jx c B → w.heap.size + 1 < B.heap.size → B.heap[w.heap.size]? = some (.deferred (some [])) → c.wpIn Fence.wide 0 P Q { a with defers := { target := .collected w.heap.size, args := #[] } :: a.defers } B) :
    (Code.rangeFunc g ps assign body).wpIn Fence.wide 0 P Q a w := by
  refine wpIn_rangeFunc ?_
  intro fn hfn
  obtain ⟨rec, hrec⟩ : ∃ rec : LoopState → Option Code → Loop, rec = fun st pe => { state := st, pending := pe, fn, tmps := a.tmps, params := ps, assign, body, defers := w.heap.size } := ⟨_, rfl⟩
  obtain ⟨W1, hW1⟩ : ∃ W1, (w.alloc (.deferred (some []))).alloc (.loop (rec .ready none)) = W1 := ⟨_, rfl⟩
  have hsz1 : W1.heap.size = w.heap.size + 2 := by rw [← hW1]; simp
  have hL1 : W1.heap[w.heap.size + 1]? = some (.loop (rec .ready none)) := by
    rw [← hW1]; have := World.alloc_heap_new (w.alloc (.deferred (some []))) (.loop (rec .ready none)); rwa [World.size_alloc] at this
  have hK1 : W1.heap[w.heap.size]? = some (.deferred (some [])) := by
    rw [← hW1]; exact (Below.heap_alloc _ _ _ (by simp)).trans (World.alloc_heap_new w _)
  have hS1 : Same w W1 := by rw [← hW1]; exact ((Keeps.refl _ w).alloc _).alloc _
  refine ⟨w.heap.size + 1, [{ target := .collected w.heap.size, args := #[] }], W1, { target := .fn (.func gf) lb, args := #[.func (.yield (w.heap.size + 1)) #[] #[]] }, W1, gf,
    #[.func (.yield (w.heap.size + 1)) #[] #[]] ++ lb, W1, ?_, ?_, ?_, ?_, fun h => by simp [Fence.wide] at h, ?_⟩
  · rw [← hW1, hrec]; exact run_enterLoop_outer _ _ _ _ _
  · simp only [resolve, hg]
    simp [go_sem]
  · intro f' hf'; trivial
  · simp [invoke, go_sem, eg]
  · refine (hseq (w.heap.size + 1)
      (fun k W => J k W ∧ w.heap.size + 1 < W.heap.size ∧ W.heap[w.heap.size + 1]? = some (.loop (rec .ready none)) ∧ W.heap[w.heap.size]? = some (.deferred (some [])))
      (fun W => ∃ c, Jx c W ∧ w.heap.size + 1 < W.heap.size ∧ W.heap[w.heap.size + 1]? = some (.loop (rec .done (some c))) ∧ W.heap[w.heap.size]? = some (.deferred (some [])))
      W1 hS1.keeps
      (fun k A B hs hk => ⟨hJ k A B hs.1 hk.keeps, Nat.lt_of_lt_of_le hs.2.1 hk.size, (hk.block _ trivial hs.2.1).trans hs.2.2.1, (hk.block _ trivial (by have := hs.2.1; omega)).trans hs.2.2.2⟩)
      (fun A B hs hk => by
        obtain ⟨c, h1, h2, h3, h4⟩ := hs
        exact ⟨c, hJx c A B h1 hk.keeps, Nat.lt_of_lt_of_le h2 hk.size, (hk.block _ trivial h2).trans h3, (hk.block _ trivial (by omega)).trans h4⟩)
      ?_ ⟨hJ _ _ _ h0 hS1.keeps, by omega, hL1, hK1⟩).mono ?_
    · -- ONE ROUND
      rintro k args W hkN ⟨hj, hlt, hl, hk⟩ hH hWs
      obtain ⟨hps, hass⟩ := hround k args W hkN hj hH hlt
      have hy := run_yield (P := P) (args := args) hl (by rw [hrec]; exact hps)
      rw [hrec] at hy
      refine ⟨fn, _, assign, body, hy, roundIn_of_wpIn hfn (wpIn_mono hass ?_)⟩
      rintro e a₁ A₁ hq
      cases e with
      | normal =>
        obtain ⟨hk1, hbody⟩ := hq
        have hl1 : A₁.heap[w.heap.size + 1]? = some (.loop (rec .ready none)) := (hk1.block _ (.inr (by omega)) hlt).trans hl
        have hd1 : A₁.heap[w.heap.size]? = some (.deferred (some [])) := (hk1.block _ (.inr (Nat.le_refl _)) (by omega)).trans hk
        have hlt1 : w.heap.size + 1 < A₁.heap.size := Nat.lt_of_lt_of_le hlt hk1.size
        refine ⟨_, run_beginRound hl1 (by rw [hrec]), ?_⟩
        have hl2 : (A₁.putObj (w.heap.size + 1) (.loop { rec .ready none with state := .busy })).heap[w.heap.size + 1]? = some (.loop { rec .ready none with state := .busy }) := World.putObj_heap_same hlt1
        have hd2 : (A₁.putObj (w.heap.size + 1) (.loop { rec .ready none with state := .busy })).heap[w.heap.size]? = some (.deferred (some [])) := (World.putObj_heap_other (by omega)).trans hd1
        have hk2 : Keeps (fun b => b ≠ w.heap.size + 1) A₁ (A₁.putObj (w.heap.size + 1) (.loop { rec .ready none with state := .busy })) := (Keeps.refl _ _).putObj _ (fun k hk _ => hk)
        have hsz2 := hk2.size
        refine wpIn_mono (hbody _ hk2) ?_
        generalize A₁.putObj (w.heap.size + 1) (.loop { rec .ready none with state := .busy }) = A₂ at *
        have fin : ∀ (jump : Option Code) (W3 : World), Keeps (fun b => w.heap.size ≤ b) A₂ W3 →
            (Instr.endRound (w.heap.size + 1) jump).run P W3 = .ok (.bool jump.isNone) (W3.putObj (w.heap.size + 1) (.loop (rec (if jump.isNone then .ready else .done) jump))) ∧
            w.heap.size + 1 < (W3.putObj (w.heap.size + 1) (.loop (rec (if jump.isNone then .ready else .done) jump))).heap.size ∧
            (W3.putObj (w.heap.size + 1) (.loop (rec (if jump.isNone then .ready else .done) jump))).heap[w.heap.size + 1]? = some (.loop (rec (if jump.isNone then .ready else .done) jump)) ∧
            (W3.putObj (w.heap.size + 1) (.loop (rec (if jump.isNone then .ready else .done) jump))).heap[w.heap.size]? = some (.deferred (some [])) ∧
            Keeps (fun b => b < w.heap.size) W3 (W3.putObj (w.heap.size + 1) (.loop (rec (if jump.isNone then .ready else .done) jump))) := fun jump W3 hk3 => by
          have hlt3 : w.heap.size + 1 < A₂.heap.size := by omega
          have hl3 : W3.heap[w.heap.size + 1]? = some (.loop { rec .ready none with state := .busy }) := (hk3.block _ (by omega) hlt3).trans hl2
          have hd3 : W3.heap[w.heap.size]? = some (.deferred (some [])) := (hk3.block _ (Nat.le_refl _) (by omega)).trans hd2
          have hlt4 : w.heap.size + 1 < W3.heap.size := Nat.lt_of_lt_of_le hlt3 hk3.size
          have := run_endRound (P := P) jump hl3
          rw [hrec] at this ⊢
          exact ⟨this, by simpa using hlt4, World.putObj_heap_same hlt4, (World.putObj_heap_other (by omega)).trans hd3, (Keeps.refl _ _).putObj _ (fun k hk _ => by omega)⟩
        rintro e a3 W3 hp
        cases e with
        | normal =>
          obtain ⟨hk3, hi3⟩ := hp
          obtain ⟨hr, hs4, hl4, hd4, hk4⟩ := fin none W3 (hk3.mono fun k hk _ => .inr hk)
          refine ⟨_, _, hr, .inl ⟨rfl, ⟨hJ _ _ _ hi3 hk4, hs4, hl4, hd4⟩, ?_⟩⟩
          have c1 : Keeps (fun b => T b ∨ W1.heap.size ≤ b) W A₁ := hk1.mono fun k hk _ => hk.imp id (fun h => by omega)
          have c2 : Keeps (fun b => T b ∨ W1.heap.size ≤ b) A₁ A₂ := hk2.mono fun k hk _ => by rcases hk with h | h; (have := hT k h; omega); omega
          have c3 : Keeps (fun b => T b ∨ W1.heap.size ≤ b) A₂ W3 := hk3.mono fun k hk _ => hk.imp id (fun h => by omega)
          exact ((c1.trans c2).trans c3).trans ((Keeps.refl _ _).putObj _ (fun k hk _ => by rcases hk with h | h; (have := hT k h; omega); omega))
        | ret =>
          obtain ⟨hk3, hi3⟩ := hp
          obtain ⟨hr, hs4, hl4, hd4, hk4⟩ := fin (some .ret) W3 hk3
          exact ⟨_, _, hr, .inr ⟨rfl, .ret, hJx _ _ _ hi3 hk4, hs4, hl4, hd4⟩⟩
        | exit id =>
          obtain ⟨hk3, hi3⟩ := hp
          obtain ⟨hr, hs4, hl4, hd4, hk4⟩ := fin (some (.exit id)) W3 hk3
          exact ⟨_, _, hr, .inr ⟨rfl, .exit id, hJx _ _ _ hi3 hk4, hs4, hl4, hd4⟩⟩
        | goto t =>
          obtain ⟨hk3, hi3⟩ := hp
          obtain ⟨hr, hs4, hl4, hd4, hk4⟩ := fin (some (.goto t)) W3 hk3
          exact ⟨_, _, hr, .inr ⟨rfl, .goto t, hJx _ _ _ hi3 hk4, hs4, hl4, hd4⟩⟩
        | panic ch => exact hp.elim
        | outgrown => exact hp.elim
      | ret => exact hq
      | exit id => exact hq
      | goto t => exact hq
      | panic ch => exact hq
      | outgrown => exact hq
    · -- BEHIND THE ITERATOR
      rintro e W2 ⟨⟨v, rfl⟩, (⟨hi, hs, hl, hk⟩ | ⟨c, hi, hs, hl, hk⟩)⟩
      · refine ⟨none, _, by have := run_endLoop (P := P) hl (by rw [hrec]; simp); rw [hrec] at this; exact this, ?_⟩
        exact hdone _ (hJ _ _ _ hi ((Keeps.refl _ _).putObj _ (fun k hk _ => by omega))) (by simpa using hs) ((World.putObj_heap_other (by omega)).trans hk)
      · refine ⟨some c, _, by have := run_endLoop (P := P) hl (by rw [hrec]; simp); rw [hrec] at this; exact this, ?_⟩
        exact hstop _ _ (hJx _ _ _ hi ((Keeps.refl _ _).putObj _ (fun k hk _ => by omega))) (by simpa using hs) ((World.putObj_heap_other (by omega)).trans hk)

/-- a piece that ends normally -/
def atNormal (φ : Act → World → Prop) : Exit → Act → World → Prop
  | .normal, a, w => φ a w
  | _, _, _ => False

/-- a call of a Go function, as one step of a region that draws -/
theorem step_call {P : Program} {ops : Array Oper} {o : Oper} {a : Act} {w : World} {K : Act → World → Prop} {Q : Exit → Act → World → Prop} {E : Prop} {R : Value → World → Prop}
    (hg : o.guard = none) (f : FuncId) (xs : Array Operand) (ts : Array TypeId) (hop : o.op = .call { callee := .value (.func f), args := xs, argTypes := ts }) (he : ∀ args w, (callFunc f args).run P w = .ok (.enter f args) w) (vs : Array Value) (hv : xs.map a.eval = vs)
    (h : Calls P f vs w fun e w' => ∃ v, e = .returned v ∧ R v w') (hK : ∀ v w', R v w' → K (a.put o.dst v) w') :
    if Region.wanted o (yielded ops a.tmps) = true then Oper.wp P o a w K Q else E := by
  have hw : Region.wanted o (yielded ops a.tmps) = true := by simp [Region.wanted, hg]
  rw [if_pos hw]
  unfold Oper.wp
  have h1 := he vs w
  have hr : (execOp a.eval o).run P w = .ok (.enter f vs) w := by
    rw [← hv] at h1 ⊢
    simp [execOp, hop, resolve, invoke, Act.eval, Result.andThen, Sem.run_bind, Deferred.ofValue] at h1 ⊢
    exact h1
  rw [hr]
  show Calls P f vs w _
  exact h.mono fun e w' ⟨v, he, hR⟩ => by subst he; exact hK v w' hR

/-- marks of loops: the function's way out, past blocks for deferred calls that are empty -/
def Marks (B : Nat) : List Deferred → World → Prop
  | [], _ => True
  | d :: ds, w => ∃ D, d = { target := .collected D, args := #[] } ∧ B ≤ D ∧ w.heap[D]? = some (.deferred (some [])) ∧ Marks B ds w ∧ (∀ e ∈ ds, e ≠ d)

theorem Marks.keeps {B : Nat} : ∀ {ds : List Deferred} {w w' : World}, Marks B ds w → (∀ d ∈ ds, ∀ D, d = { target := .collected D, args := #[] } → D < w.heap.size → w'.heap[D]? = w.heap[D]?) → Marks B ds w'
  | [], _, _, _, _ => trivial
  | d :: ds, w, w', ⟨D, h1, h2, h3, h4, h5⟩, h => ⟨D, h1, h2, (h d (by simp) D h1 (Array.getElem?_eq_some_iff.1 h3).1).trans h3, h4.keeps (fun e he => h e (by simp [he])), h5⟩
theorem Marks.kept {B : Nat} {S : Nat → Prop} {ds : List Deferred} {w w' : World} (hm : Marks B ds w) (hk : Keeps S w w') (hS : ∀ D, B ≤ D → { target := .collected D, args := #[] } ∈ ds → S D) : Marks B ds w' := by
  induction ds with
  | nil => trivial
  | cons d ds ih =>
    obtain ⟨D, h1, h2, h3, h4, h5⟩ := hm
    exact ⟨D, h1, h2, (hk.block D (hS D h2 (by rw [← h1]; simp)) (Array.getElem?_eq_some_iff.1 h3).1).trans h3, ih h4 (fun E hE hm => hS E hE (by simp [hm])), h5⟩

theorem leaves_marks {P : Program} {fn : Func} {tmps : Array Value} {R : Ending → World → Prop} {B : Nat} : ∀ (ds : List Deferred) (w : World), Marks B ds w →
    (∀ w', Keeps (fun b => b < B) w w' → (∀ b : Nat, (w.heap[b]?.map Obj.isCells).getD false = true → w'.heap[b]? = w.heap[b]?) → w'.heap.size = w.heap.size → ∃ v, (results fn tmps).run P w' = .ok v w' ∧ R (.returned v) w') →
    LeavesInM Fence.wide 0 P fn tmps R ds .returning w := by
  intro ds
  induction ds with
  | nil =>
    intro w _ h
    obtain ⟨v, h1, h2⟩ := h w (Keeps.refl _ _) (fun _ _ => rfl) rfl
    exact ⟨v, h1, h2⟩
  | cons d ds ih =>
    rintro w ⟨D, rfl, hB, hD, hm, hne⟩ h
    refine ⟨by simp, .inl ⟨D, _, rfl, run_takeDeferred hD, ih _ (hm.keeps ?_) ?_⟩⟩
    · intro e he E hE _
      refine World.putObj_heap_other ?_
      rintro rfl
      exact hne e he hE
    · intro w' hk hc hs
      refine h w' (((Keeps.refl _ _).putObj _ (fun k hk _ => by omega)).trans hk) ?_ (by rw [hs]; simp)
      intro b hb
      have hne : b ≠ D := by rintro rfl; rw [hD] at hb; simp [Obj.isCells] at hb
      rw [hc b (by rw [World.putObj_heap_other hne]; exact hb), World.putObj_heap_other hne]
end Um
