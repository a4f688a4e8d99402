/-
  What the builder's memory holds.
-/
import Derived.Test.YtpokiglgjmcdoaaKeys
set_option linter.unusedVariables false
set_option linter.unusedSimpArgs false
namespace Go.Proofs.Ytpokiglgjmcdoaa
open Go.ChangeShapes Go.WideShapes Go.ChangeAt Go.RowKit Go.BigFrame Go.Shelf Go.Maps
open Um

def chCells (cs : List Dia.Ch) : List Value := cs.flatMap fun c => [.int .i64 (c.v : Int), .int .i64 (c.lo : Int), .int .i64 (c.hi : Int)]
theorem chCells_length (cs : List Dia.Ch) : (chCells cs).length = cs.length * 3 := by
  induction cs with
  | nil => rfl
  | cons c cs ih => simp only [chCells, List.flatMap_cons, List.length_append, List.length_cons, List.length_nil] at *; omega
theorem chCells_append (cs ds : List Dia.Ch) : chCells (cs ++ ds) = chCells cs ++ chCells ds := by simp [chCells]
theorem chCells_at : ∀ (cs : List Dia.Ch) (j : Nat) (c : Dia.Ch), cs[j]? = some c → (chCells cs)[j * 3]? = some (.int .i64 (c.v : Int)) ∧ (chCells cs)[j * 3 + 1]? = some (.int .i64 (c.lo : Int)) ∧ (chCells cs)[j * 3 + 2]? = some (.int .i64 (c.hi : Int)) := by
  intro cs
  induction cs with
  | nil => intro j c h; simp at h
  | cons d cs ih =>
    intro j c h
    cases j with
    | zero => simp at h; subst h; simp [chCells]
    | succ j =>
      have := ih j c (by simpa using h)
      simp only [chCells, List.flatMap_cons] at *
      rw [show (j + 1) * 3 = j * 3 + 3 from by omega]
      simpa [List.getElem?_append, Nat.add_assoc] using this

/-- THE BUILDER LIES IN MEMORY -/
structure Bld (w0 : World) (ob kb sb B : Nat) (s : Dia.St) (w : World) : Prop where
  same : Same w0 w
  lo : w0.heap.size ≤ ob ∧ w0.heap.size ≤ kb ∧ w0.heap.size ≤ sb ∧ ob < B ∧ kb < B ∧ sb < B ∧ B ≤ w.heap.size ∧ ob ≠ kb ∧ ob ≠ sb ∧ kb ≠ sb
  c0 : ∃ cv, w.cell? ⟨ob, 0, none⟩ = some cv ∧ w.ownsRow B 136 3 cv s.1.length (chCells s.1)
  c1 : w.cell? ⟨ob, 1, none⟩ = some (.map (some kb))
  c2 : w.cell? ⟨ob, 2, none⟩ = some (.map (some sb))
  fz : w.frozen? ⟨ob, 0, none⟩ = false
  known : MapIs chKey chOk natVal w kb (Dia.known s.1)
  seen : MapIs tabKey tabOk natVal w sb s.2
theorem Bld.after {w0 w w' : World} {ob kb sb B : Nat} {s : Dia.St} (h : Bld w0 ob kb sb B s w) (hk : Same w w') : Bld w0 ob kb sb B s w' := by
  obtain ⟨l1, l2, l3, l4, l5, l6, l7, l8, l9, l10⟩ := h.lo
  obtain ⟨cv, e0, e1⟩ := h.c0
  have hlt : ob < w.heap.size := by omega
  exact ⟨h.same.trans hk, ⟨l1, l2, l3, l4, l5, l6, by have := hk.size; omega, l8, l9, l10⟩, ⟨cv, hk.cell_of trivial e0, e1.kept (same_grown hk) own_ne⟩, hk.cell_of trivial h.c1, hk.cell_of trivial h.c2, (hk.frozen trivial hlt).trans h.fz, h.known.same hk, h.seen.same hk⟩
/-- a block that the builder does not touch -/
def Off (A : World) (ob kb sb k : Nat) : Prop := k ≠ ob ∧ k ≠ kb ∧ k ≠ sb ∧ ∀ cv, A.cell? ⟨ob, 0, none⟩ = some cv → cv.ownBlock ≠ some k
def Spares (ob kb sb : Nat) (A A' : World) : Prop := Keeps (Off A ob kb sb) A A' ∧ ∀ k, k < A.heap.size → Off A ob kb sb k → Off A' ob kb sb k
theorem Spares.refl (ob kb sb : Nat) (A : World) : Spares ob kb sb A A := ⟨Keeps.refl _ _, fun _ _ h => h⟩
theorem Spares.trans {ob kb sb : Nat} {A A' A'' : World} (h : Spares ob kb sb A A') (k : Spares ob kb sb A' A'') : Spares ob kb sb A A'' :=
  ⟨⟨k.1.os.trans h.1.os, k.1.tape.trans h.1.tape, k.1.output.trans h.1.output, Nat.le_trans h.1.size k.1.size, fun i hi hl => (k.1.block i (h.2 i hl hi) (Nat.lt_of_lt_of_le hl h.1.size)).trans (h.1.block i hi hl)⟩,
    fun i hl hi => k.2 i (Nat.lt_of_lt_of_le hl h.1.size) (h.2 i hl hi)⟩
theorem Off.same {A A' : World} {ob kb sb k : Nat} (h : Off A ob kb sb k) (hob : ob < A.heap.size) (hk : Same A A') : Off A' ob kb sb k :=
  ⟨h.1, h.2.1, h.2.2.1, fun cv hc => h.2.2.2 cv ((hk.cell (p := ⟨ob, 0, none⟩) trivial hob).symm.trans hc)⟩
theorem Spares.of_same {ob kb sb : Nat} {A A' : World} (hob : ob < A.heap.size) (h : Same A A') : Spares ob kb sb A A' := ⟨h.keeps, fun k _ hk => hk.same hob h⟩
theorem Bld.ob_lt {w0 w : World} {ob kb sb B : Nat} {s : Dia.St} (h : Bld w0 ob kb sb B s w) : ob < w.heap.size := by have := h.lo; omega
/-- a block that is new is spared -/
theorem Bld.off_new {w0 w w' : World} {ob kb sb B : Nat} {s : Dia.St} (h : Bld w0 ob kb sb B s w) (hk : Same w w') {k : Nat} (hn : w.heap.size ≤ k) : Off w' ob kb sb k := by
  obtain ⟨l1, l2, l3, l4, l5, l6, l7, l8, l9, l10⟩ := h.lo
  refine ⟨by omega, by omega, by omega, fun cv hc ho => ?_⟩
  obtain ⟨cv', e0, e1⟩ := h.c0
  have := hk.cell_of trivial e0
  rw [this] at hc; cases hc
  have := (e1.lt _ ho).2
  omega
theorem Spares.block {ob kb sb : Nat} {A A' : World} (h : Spares ob kb sb A A') {k : Nat} (hk : Off A ob kb sb k) (hl : k < A.heap.size) : A'.heap[k]? = A.heap[k]? := h.1.block k hk hl
theorem Spares.fresh {w0 A A' : World} {ob kb sb B : Nat} {s : Dia.St} {o : Obj} (h : Bld w0 ob kb sb B s A) (hS : Spares ob kb sb (A.alloc o) A') : A'.heap[A.heap.size]? = some o ∧ Off A' ob kb sb A.heap.size ∧ A.heap.size < A'.heap.size := by
  have h1 : Off (A.alloc o) ob kb sb A.heap.size := h.off_new ((Keeps.refl _ A).alloc o) (Nat.le_refl _)
  have h2 : A.heap.size < (A.alloc o).heap.size := by simp
  exact ⟨(hS.block h1 h2).trans (heap_alloc_new A o), hS.2 _ h2 h1, Nat.lt_of_lt_of_le h2 hS.1.size⟩
theorem Spares.freshD {w0 A A' : World} {ob kb sb B : Nat} {s : Dia.St} {o : Obj} (h : Bld w0 ob kb sb B s A) (hS : Spares ob kb sb (A.alloc o).drew A') : A'.heap[A.heap.size]? = some o ∧ Off A' ob kb sb A.heap.size ∧ A.heap.size < A'.heap.size :=
  Spares.fresh h ((Spares.of_same (by have := h.ob_lt; simp; omega) ((Keeps.refl _ (A.alloc o)).drew)).trans hS)
theorem Spares.carry {A A' : World} {ob kb sb N : Nat} {o : Obj} (hS : Spares ob kb sb A A') (y : A.heap[N]? = some o ∧ Off A ob kb sb N ∧ N < A.heap.size) : A'.heap[N]? = some o ∧ Off A' ob kb sb N ∧ N < A'.heap.size :=
  ⟨(hS.block y.2.1 y.2.2).trans y.1, hS.2 _ y.2.2 y.2.1, Nat.lt_of_lt_of_le y.2.2 hS.1.size⟩
theorem cells3 {w : World} {N ty : Nat} {a b c : Value} (h : w.heap[N]? = some (.cells #[a, b, c] ty)) : w.cell? ⟨N, 0, none⟩ = some a ∧ w.cell? ⟨N, 1, none⟩ = some b ∧ w.cell? ⟨N, 2, none⟩ = some c ∧
    w.frozen? ⟨N, 0, none⟩ = false ∧ w.frozen? ⟨N, 1, none⟩ = false ∧ w.frozen? ⟨N, 2, none⟩ = false := by
  simp [World.cell?, World.frozen?, h]
theorem setCell_block {w : World} {N ty i : Nat} {cs : Array Value} {v : Value} {fz : Nat × Nat} (h : w.heap[N]? = some (.cells cs ty fz)) : (w.setCell ⟨N, i, none⟩ v).heap[N]? = some (.cells (cs.setIfInBounds i v) ty fz) := by
  show (w.heap.modify N _)[N]? = _
  rw [Array.getElem?_modify, if_pos rfl, h]
  simp
theorem stores3 {w : World} {N ty : Nat} {a b c a' b' c' : Value} (h : w.heap[N]? = some (.cells #[a, b, c] ty)) :
    (((w.setCell ⟨N, 0, none⟩ a').setCell ⟨N, 1, none⟩ b').setCell ⟨N, 2, none⟩ c').heap[N]? = some (.cells #[a', b', c'] ty) ∧ Keeps (fun k => k ≠ N) w (((w.setCell ⟨N, 0, none⟩ a').setCell ⟨N, 1, none⟩ b').setCell ⟨N, 2, none⟩ c') := by
  have k1 : Keeps (fun k => k ≠ N) w (w.setCell ⟨N, 0, none⟩ a') := (Keeps.refl _ w).setCell (p := ⟨N, 0, none⟩) (fun k hk _ => hk) _
  have k2 : Keeps (fun k => k ≠ N) w ((w.setCell ⟨N, 0, none⟩ a').setCell ⟨N, 1, none⟩ b') := k1.setCell (p := ⟨N, 1, none⟩) (fun k hk _ => hk) _
  have k3 : Keeps (fun k => k ≠ N) w (((w.setCell ⟨N, 0, none⟩ a').setCell ⟨N, 1, none⟩ b').setCell ⟨N, 2, none⟩ c') := k2.setCell (p := ⟨N, 2, none⟩) (fun k hk _ => hk) _
  refine ⟨?_, k3⟩
  clear k1 k2 k3
  have h1 := setCell_block (v := a') (i := 0) h
  have h2 := setCell_block (v := b') (i := 1) h1
  have h3 := setCell_block (v := c') (i := 2) h2
  exact h3
theorem Bld.afterOff {w0 w w' : World} {ob kb sb B N : Nat} {s : Dia.St} (h : Bld w0 ob kb sb B s w) (o : Off w ob kb sb N) (hN : w0.heap.size ≤ N) (hk : Keeps (fun k => k ≠ N) w w') : Bld w0 ob kb sb B s w' := by
  obtain ⟨l1, l2, l3, l4, l5, l6, l7, l8, l9, l10⟩ := h.lo
  obtain ⟨cv, e0, e1⟩ := h.c0
  have hlt : ob < w.heap.size := by omega
  obtain ⟨n1, n2, n3, n4⟩ := o
  refine ⟨h.same.through hk (fun k hk' => by omega), ⟨l1, l2, l3, l4, l5, l6, by have := hk.size; omega, l8, l9, l10⟩, ⟨cv, hk.cell_of (S := fun k => k ≠ N) (Ne.symm n1) e0, ?_⟩, hk.cell_of (S := fun k => k ≠ N) (Ne.symm n1) h.c1, hk.cell_of (S := fun k => k ≠ N) (Ne.symm n1) h.c2, (hk.frozen (S := fun k => k ≠ N) (Ne.symm n1) hlt).trans h.fz, h.known.keeps hk (Ne.symm n2), h.seen.keeps hk (Ne.symm n3)⟩
  have hg : w.grownBy w' (some N) := ⟨hk.os, hk.tape, hk.output, hk.size, fun k hl hne => hk.block k (fun e => hne (by rw [e])) hl⟩
  refine e1.kept hg ?_
  exact .inr (n4 cv e0)
theorem Spares.over {w w2 wx : World} {ob kb sb N : Nat} (h : Spares ob kb sb w w2) (hk : Keeps (fun k => k ≠ N) w2 wx) (hN : w.heap.size ≤ N) (ho : ob ≠ N) (hl : ob < w2.heap.size) : Spares ob kb sb w wx :=
  ⟨⟨hk.os.trans h.1.os, hk.tape.trans h.1.tape, hk.output.trans h.1.output, Nat.le_trans h.1.size hk.size, fun i hi hl' => (hk.block i (by omega) (Nat.lt_of_lt_of_le hl' h.1.size)).trans (h.1.block i hi hl')⟩,
    fun i hl' hi => by
      obtain ⟨q1, q2, q3, q4⟩ := h.2 i hl' hi
      exact ⟨q1, q2, q3, fun cv hc => q4 cv ((hk.cell (S := fun k => k ≠ N) (p := ⟨ob, 0, none⟩) ho hl).symm.trans hc)⟩⟩
theorem Off.over {w2 wx : World} {ob kb sb N k : Nat} (h : Off w2 ob kb sb k) (hk : Keeps (fun k => k ≠ N) w2 wx) (ho : ob ≠ N) (hl : ob < w2.heap.size) : Off wx ob kb sb k :=
  ⟨h.1, h.2.1, h.2.2.1, fun cv hc => h.2.2.2 cv ((hk.cell (S := fun k => k ≠ N) (p := ⟨ob, 0, none⟩) ho hl).symm.trans hc)⟩
theorem node_over {w0 w w2 : World} {ob kb sb B N ty : Nat} {s : Dia.St} {a b c : Value} (hB : Bld w0 ob kb sb B s w2) (S : Spares ob kb sb w w2) (hw : w0.heap.size ≤ w.heap.size) (hN : w.heap.size ≤ N) (y : w2.heap[N]? = some (.cells #[a, b, c] ty) ∧ Off w2 ob kb sb N ∧ N < w2.heap.size) (a' b' c' : Value) :
    (((w2.setCell ⟨N, 0, none⟩ a').setCell ⟨N, 1, none⟩ b').setCell ⟨N, 2, none⟩ c').heap[N]? = some (.cells #[a', b', c'] ty) ∧ Bld w0 ob kb sb B s (((w2.setCell ⟨N, 0, none⟩ a').setCell ⟨N, 1, none⟩ b').setCell ⟨N, 2, none⟩ c') ∧
    Spares ob kb sb w (((w2.setCell ⟨N, 0, none⟩ a').setCell ⟨N, 1, none⟩ b').setCell ⟨N, 2, none⟩ c') ∧ Off (((w2.setCell ⟨N, 0, none⟩ a').setCell ⟨N, 1, none⟩ b').setCell ⟨N, 2, none⟩ c') ob kb sb N := by
  obtain ⟨h1, h2⟩ := stores3 (a' := a') (b' := b') (c' := c') y.1
  have ho : ob ≠ N := Ne.symm y.2.1.1
  exact ⟨h1, hB.afterOff y.2.1 (by omega) h2, S.over h2 hN ho hB.ob_lt, y.2.1.over h2 ho hB.ob_lt⟩
/-- behind the last store into the map of tables -/
theorem Bld.seenStore {w0 w w' : World} {ob kb sb B : Nat} {s : Dia.St} (h : Bld w0 ob kb sb B s w) {f : List Nat → Option Nat} (hM : MapIs tabKey tabOk natVal w' sb f) (hk : Keeps (fun k => k ≠ sb) w w') : Bld w0 ob kb sb B (s.1, f) w' ∧ Spares ob kb sb w w' := by
  obtain ⟨l1, l2, l3, l4, l5, l6, l7, l8, l9, l10⟩ := h.lo
  obtain ⟨cv, e0, e1⟩ := h.c0
  have hlt : ob < w.heap.size := by omega
  have hg : w.grownBy w' (some sb) := ⟨hk.os, hk.tape, hk.output, hk.size, fun k hl hne => hk.block k (fun e => hne (by rw [e])) hl⟩
  refine ⟨⟨h.same.through hk (fun k hk' => by omega), ⟨l1, l2, l3, l4, l5, l6, by have := hk.size; omega, l8, l9, l10⟩, ⟨cv, hk.cell_of (S := fun k => k ≠ sb) l9 e0, e1.kept hg ?_⟩, hk.cell_of (S := fun k => k ≠ sb) l9 h.c1, hk.cell_of (S := fun k => k ≠ sb) l9 h.c2, (hk.frozen (S := fun k => k ≠ sb) l9 hlt).trans h.fz, h.known.keeps hk l10, hM⟩, ?_, ?_⟩
  · cases hc : cv.ownBlock with
    | none => exact .inl rfl
    | some k => right; intro e; cases e; have := (e1.lt _ hc).1; omega
  · exact hk.mono fun k hk' _ => hk'.2.2.1
  · intro k hl hk'
    exact ⟨hk'.1, hk'.2.1, hk'.2.2.1, fun cv hc => hk'.2.2.2 cv ((hk.cell (S := fun k => k ≠ sb) (p := ⟨ob, 0, none⟩) l9 hlt).symm.trans hc)⟩
theorem _root_.Um.Keeps.grownBy {w w' : World} {N : Nat} (hk : Keeps (fun k => k ≠ N) w w') : w.grownBy w' (some N) := ⟨hk.os, hk.tape, hk.output, hk.size, fun k hl hne => hk.block k (fun e => hne (by rw [e])) hl⟩
theorem known_append {cs : List Dia.Ch} {c : Dia.Ch} (h : Dia.known cs c = none) (y : Dia.Ch) : (if y = c then some (cs.length + 2) else Dia.known cs y) = Dia.known (cs ++ [c]) y := by
  have hn := Dia.known_none h
  unfold Dia.known
  by_cases hy : y = c
  · subst hy
    rw [if_pos rfl]
    have : (cs ++ [y]).idxOf? y = some cs.length := by
      unfold List.idxOf?
      rw [List.findIdx?_append]
      have h2 : List.findIdx? (fun x => x == y) cs = none := by
        rw [List.findIdx?_eq_none_iff]
        intro x hx
        simp
        rintro rfl
        exact hn hx
      rw [h2]
      simp [List.findIdx?_cons]
    rw [this]; rfl
  · rw [if_neg hy]
    have : (cs ++ [c]).idxOf? y = cs.idxOf? y := by
      unfold List.idxOf?
      rw [List.findIdx?_append]
      cases h2 : List.findIdx? (fun x => x == y) cs with
      | some k => rfl
      | none => simp [List.findIdx?_cons, Ne.symm hy]
    rw [this]
theorem row_take {S : Nat → Prop} {w : World} {b o n cap : Nat} {l : List Value} (h : RowAt S w (.slice (some ⟨b, o, none⟩) n cap) l) (k : Nat) (hk : k ≤ n) : RowAt S w (.slice (some ⟨b, o, none⟩) k cap) (l.take k) := by
  rcases h with ⟨⟨a, c, h, hc⟩, rfl⟩ | ⟨b', o', c', h1, h2, h3, h4, h5, h6⟩
  · cases h
    obtain rfl : k = 0 := by omega
    exact .inl ⟨⟨_, _, rfl, hc⟩, by simp⟩
  · cases h1
    refine .inr ⟨b, o, cap, by rw [List.length_take]; congr 1; omega, by rw [List.length_take]; omega, h3, h4, h5, fun j u hj => h6 j u ?_⟩
    rw [List.getElem?_take] at hj
    split at hj
    · exact hj
    · cases hj
theorem row_drop {S : Nat → Prop} {w : World} {b o n cap : Nat} {l : List Value} (h : RowAt S w (.slice (some ⟨b, o, none⟩) n cap) l) (k : Nat) (hk : k ≤ n) : RowAt S w (.slice (some ⟨b, o + k, none⟩) (n - k) (cap - k)) (l.drop k) := by
  rcases h with ⟨⟨a, c, h, hc⟩, rfl⟩ | ⟨b', o', c', h1, h2, h3, h4, h5, h6⟩
  · cases h
    obtain rfl : k = 0 := by omega
    exact .inl ⟨⟨_, _, rfl, by omega⟩, by simp⟩
  · cases h1
    refine .inr ⟨b, o + k, cap - k, by rw [List.length_drop], by rw [List.length_drop]; omega, by omega, h4, h5, fun j u hj => ?_⟩
    rw [List.getElem?_drop] at hj
    have := h6 (k + j) u hj
    rwa [Nat.add_assoc]
theorem conv_tab {S : Nat → Prop} {w : World} {b o cap : Nat} {t : List Nat} (h : RowAt S w (.slice (some ⟨b, o, none⟩) t.length cap) (u8s t)) {w' : World} (hk : Same w w') :
    (convert 129 9 (.slice (some ⟨b, o, none⟩) t.length cap)).run Try.prog w' = .ok (.string (tabStr t)) w' := by
  rw [run_convert_bytes_string w' _ _ _ _ _ _ Try.underlying129 Try.underlying5 Try.underlying9]
  have hl : (u8s t).length = t.length := by simp [u8s]
  have hc : ∀ j u, (u8s t)[j]? = some u → w'.cell? ⟨b, o + j, none⟩ = some u := by
    intro j u hj
    rcases h.same hk with ⟨_, h⟩ | ⟨b', o', c', h1, _, _, _, _, h6⟩
    · rw [h] at hj; simp at hj
    · simp only [Value.slice.injEq, Option.some.injEq, Addr.mk.injEq, and_true] at h1
      obtain ⟨⟨rfl, rfl⟩, _, _⟩ := h1
      exact h6 j u hj
  have hload : (loadCells ⟨b, o, none⟩ t.length).run Try.prog w' = .ok ((t.map fun x : Nat => (x : Int)).map (Value.int .u8)).toArray w' := by
    have h1 := run_loadCells_list (P := Try.prog) (w := w') ⟨b, o, none⟩ (u8s t) (fun j v hj => by
      have : (⟨b, o, none⟩ : Addr).add j = ⟨b, o + j, none⟩ := by unfold Addr.add; split <;> simp_all
      rw [this]; exact hc j v hj)
    rw [hl] at h1
    rw [h1]
    simp [u8s]
  rw [run_bytesToString w' _ _ _ _ hload]
  rfl
/-- behind an append of a choice, and its store into the map of choices -/
theorem Bld.push {w0 W w3 w4 : World} {ob kb sb B g2 cap2 : Nat} {s : Dia.St} {c : Dia.Ch} {cv : Value} (h : Bld w0 ob kb sb B s W) (hcv : W.cell? ⟨ob, 0, none⟩ = some cv) (hk2 : Keeps (fun k => k ≠ ob ∧ some k ≠ cv.ownBlock) W w3)
    (c0 : w3.cell? ⟨ob, 0, none⟩ = some (.slice (some ⟨g2, 0, none⟩) (s.1.length + 1) cap2)) (c1 : w3.cell? ⟨ob, 1, none⟩ = some (.map (some kb))) (c2 : w3.cell? ⟨ob, 2, none⟩ = some (.map (some sb))) (fz : w3.frozen? ⟨ob, 0, none⟩ = false)
    (hown : w3.ownsRow B 136 3 (.slice (some ⟨g2, 0, none⟩) (s.1.length + 1) cap2) (s.1.length + 1) (chCells s.1 ++ [.int .i64 (c.v : Int), .int .i64 (c.lo : Int), .int .i64 (c.hi : Int)]))
    (hat : cv.ownBlock = some g2 ∨ g2 = W.heap.size + 1) (hn : Dia.known s.1 c = none) (hM : MapIs chKey chOk natVal w4 kb (fun y => if y = c then some (s.1.length + 2) else Dia.known s.1 y)) (hK : Keeps (fun k => k ≠ kb) w3 w4) :
    Bld w0 ob kb sb B (s.1 ++ [c], s.2) w4 ∧ Spares ob kb sb W w4 := by
  obtain ⟨l1, l2, l3, l4, l5, l6, l7, l8, l9, l10⟩ := h.lo
  obtain ⟨cv', e0, e1⟩ := h.c0
  rw [hcv] at e0; cases e0
  have hlt : ob < W.heap.size := by omega
  have hlt3 : ob < w3.heap.size := Nat.lt_of_lt_of_le hlt hk2.size
  have far : ∀ k, k < B → some k ≠ cv.ownBlock := fun k hk e => by have := (e1.lt k e.symm).1; omega
  have hg : w3.grownBy w4 (some kb) := ⟨hK.os, hK.tape, hK.output, hK.size, fun k hl hne => hK.block k (fun e => hne (by rw [e])) hl⟩
  have hgb : B ≤ g2 := (hown.lt g2 rfl).1
  have hs1 : Same w0 w3 := h.same.through hk2 (fun k hk => ⟨by omega, far k (by omega)⟩)
  have hob4 : w4.cell? ⟨ob, 0, none⟩ = some (.slice (some ⟨g2, 0, none⟩) (s.1.length + 1) cap2) := hK.cell_of (S := fun k => k ≠ kb) l8 c0
  refine ⟨⟨hs1.through hK (fun k hk => by omega), ⟨l1, l2, l3, l4, l5, l6, by have := hK.size; have := hk2.size; omega, l8, l9, l10⟩, ⟨_, hob4, ?_⟩, hK.cell_of (S := fun k => k ≠ kb) l8 c1, hK.cell_of (S := fun k => k ≠ kb) l8 c2, (hK.frozen (S := fun k => k ≠ kb) l8 hlt3).trans fz, hM.congr (known_append hn),
    (h.seen.keeps hk2 ⟨Ne.symm l9, far sb l6⟩).keeps hK (Ne.symm l10)⟩, ⟨hK.os.trans hk2.os, hK.tape.trans hk2.tape, hK.output.trans hk2.output, Nat.le_trans hk2.size hK.size, ?_⟩, ?_⟩
  · simp only [List.length_append, List.length_cons, List.length_nil]
    rw [chCells_append]
    refine hown.kept hg (.inr ?_)
    intro e
    have : g2 = kb := by simpa [Value.ownBlock] using e
    omega
  · intro k hk hl
    obtain ⟨n1, n2, n3, n4⟩ := hk
    exact (hK.block k n2 (Nat.lt_of_lt_of_le hl hk2.size)).trans (hk2.block k ⟨n1, fun e => n4 cv hcv e.symm⟩ hl)
  · intro k hl hk
    obtain ⟨n1, n2, n3, n4⟩ := hk
    refine ⟨n1, n2, n3, fun cv' hc => ?_⟩
    rw [hob4] at hc; cases hc
    intro e
    have : g2 = k := by simpa [Value.ownBlock] using e
    subst this
    rcases hat with hat | hat
    · exact n4 cv hcv hat
    · omega
end Go.Proofs.Ytpokiglgjmcdoaa
