/-
  dia.level, dia.Check$1, dia.finished.
-/
import Derived.Test.YtpokiglgjmcdoaaNode2
import Derived.Laws.EntriesVeiled
set_option linter.unusedVariables false
set_option linter.unusedSimpArgs false
namespace Go.Proofs.Ytpokiglgjmcdoaa
open Go.ChangeShapes Go.WideShapes Go.ChangeAt Go.RowKit Go.BigFrame Go.Shelf Go.Maps
open Um

set_option maxRecDepth 100000 in
theorem level_any (cs : List Dia.Ch) (root : Nat) (hl : cs.length ≤ 4000) (i : Nat) (hi : i < cs.length + 2) (S : Nat → Prop) (w : World) (u : Value) (hu : ChsAt S w u cs) :
    Calls Try.prog 124 #[.agg #[u, .int .i64 root], .int .i64 i] w fun e w' => e = .returned (.int .i64 (Dia.lev cs i : Int)) ∧ Same w w' := by
  obtain ⟨uo, ucap, rfl, hch⟩ := hu
  by_cases h2 : i < 2
  · have HR : Hid (Dia.lev cs i = 17) := Lib.hid (if_pos h2)
    obtain ⟨n, hn⟩ : ∃ n, n = cs.length := ⟨_, rfl⟩
    rw [← hn]
    clear hch hn
    go_enter Try.func124, Try.ntmps124
    go_wp2
    go_ret
    exact ⟨ret_int (by rw [HR.out]; rfl), (Keeps.refl _ w).alloc _⟩
  · obtain ⟨m, rfl⟩ : ∃ m, i = m + 2 := ⟨i - 2, by omega⟩
    obtain ⟨ch, hc⟩ : ∃ ch, cs[m]? = some ch := ⟨_, List.getElem?_eq_getElem (by omega)⟩
    obtain ⟨b, o, rfl, hb, e0, e1, e2⟩ := hch m ch hc
    have hlb : b < w.heap.size := World.block_lt_of_cell? w ⟨b, o + m * 3, none⟩ e0
    have HR : Hid (Dia.lev cs (m + 2) = ch.v) := Lib.hid (by unfold Dia.lev; rw [if_neg h2, List.getD_eq_getElem?_getD]; simp [hc])
    obtain ⟨n, hn⟩ : ∃ n, n = cs.length := ⟨_, rfl⟩
    rw [← hn] at hi hl
    rw [← hn]
    clear hch hn hc e1 e2
    go_enter Try.func124, Try.ntmps124
    go_wp2
    go_ret
    exact ⟨ret_int (by rw [HR.out]), (Keeps.refl _ w).alloc _⟩

theorem in_any (k i ib : Nat) (hk : k < i + 2) (hi : i ≤ 100000) (w : World) (hc : w.cell? ⟨ib, 0, none⟩ = some (.int .i64 i)) :
    Calls Try.prog 123 #[.int .i64 k, .pointer (some ⟨ib, 0, none⟩)] w fun e w' => e = .returned (.bool true) ∧ w = w' := by
  have h1 : decide ((k : Int) < (i : Int) + 2) = true := by simp; omega
  have h0 : decide ((0 : Int) ≤ (k : Int)) = true := by simp
  go_enter Try.func123, Try.ntmps123
  go_wp2
  go_ret
  exact ⟨rfl, rfl⟩

def doneL (N nx : Nat) : List Value := (List.range N).map fun j => .bool (decide (2 ≤ j ∧ j < nx))
/-- the state of a traversal -/
structure Fin (w0 : World) (cs : List Dia.Ch) (u : Value) (root db nb dnb vb g : Nat) (nx : Nat) (w : World) : Prop where
  same : Same w0 w
  lo : w0.heap.size ≤ nb ∧ w0.heap.size ≤ g ∧ nb ≠ g ∧ db ≠ nb ∧ db ≠ g ∧ dnb ≠ nb ∧ dnb ≠ g ∧ vb ≠ nb ∧ vb ≠ g ∧ nb < w.heap.size ∧ g < w.heap.size
  d : w.heap[db]? = some (.cells #[u, .int .i64 (root : Int)] 45)
  n : w.heap[nb]? = some (.cells #[.int .i64 (nx : Int)] 3)
  dn : w.heap[dnb]? = some (.cells #[.slice (some ⟨g, 0, none⟩) (cs.length + 2) (cs.length + 2)] 55)
  v : w.heap[vb]? = some (.cells #[.func (.func 183) #[] #[.pointer (some ⟨dnb, 0, none⟩), .pointer (some ⟨db, 0, none⟩), .pointer (some ⟨vb, 0, none⟩), .pointer (some ⟨nb, 0, none⟩)]] 199)
  done : w.ownsRow w0.heap.size 4 1 (.slice (some ⟨g, 0, none⟩) (cs.length + 2) (cs.length + 2)) (cs.length + 2) (doneL (cs.length + 2) nx)
theorem Fin.after {w0 w w' : World} {cs : List Dia.Ch} {u : Value} {root db nb dnb vb g nx : Nat} (h : Fin w0 cs u root db nb dnb vb g nx w) (hk : Same w w') : Fin w0 cs u root db nb dnb vb g nx w' := by
  obtain ⟨h1, h2, h3, h4, h5, h6, h7⟩ := h
  refine ⟨h1.trans hk, ?_, ?_, ?_, ?_, ?_, h7.kept (same_grown hk) own_ne⟩
  · have := hk.size; omega
  · exact (hk.block _ trivial (Array.getElem?_eq_some_iff.1 h3).1).trans h3
  · exact (hk.block _ trivial (Array.getElem?_eq_some_iff.1 h4).1).trans h4
  · exact (hk.block _ trivial (Array.getElem?_eq_some_iff.1 h5).1).trans h5
  · exact (hk.block _ trivial (Array.getElem?_eq_some_iff.1 h6).1).trans h6

theorem visit_le {cs : List Dia.Ch} : ∀ {f i nx nx' : Nat}, Dia.visit cs f i nx = some nx' → i < cs.length + 2 → nx ≤ cs.length + 2 → nx' ≤ cs.length + 2 := by
  intro f
  cases f with
  | zero => intro i nx nx' h; cases h
  | succ f =>
    intro i nx nx' h hi hn
    rw [Dia.visit] at h
    split at h
    · cases h; exact hn
    · cases h1 : Dia.visit cs f (cs.getD (i - 2) default).lo nx with
      | none => rw [h1] at h; cases h
      | some n1 =>
        rw [h1] at h
        simp only [Option.bind_some] at h
        cases h2 : Dia.visit cs f (cs.getD (i - 2) default).hi n1 with
        | none => rw [h2] at h; cases h
        | some n2 =>
          rw [h2] at h
          simp only [Option.bind_some] at h
          split at h
          · cases h; omega
          · cases h
theorem visit_ge {cs : List Dia.Ch} : ∀ {f i nx nx' : Nat}, Dia.visit cs f i nx = some nx' → 2 ≤ nx → 2 ≤ nx' := by
  intro f
  cases f with
  | zero => intro i nx nx' h; cases h
  | succ f =>
    intro i nx nx' h hn
    rw [Dia.visit] at h
    split at h
    · cases h; exact hn
    · cases h1 : Dia.visit cs f (cs.getD (i - 2) default).lo nx with
      | none => rw [h1] at h; cases h
      | some n1 =>
        rw [h1] at h
        simp only [Option.bind_some] at h
        cases h2 : Dia.visit cs f (cs.getD (i - 2) default).hi n1 with
        | none => rw [h2] at h; cases h
        | some n2 =>
          rw [h2] at h
          simp only [Option.bind_some] at h
          split at h
          · cases h; omega
          · cases h
theorem cell1 {w : World} {N ty : Nat} {a : Value} (h : w.heap[N]? = some (.cells #[a] ty)) : w.cell? ⟨N, 0, none⟩ = some a ∧ w.frozen? ⟨N, 0, none⟩ = false := by
  simp [World.cell?, World.frozen?, h]
theorem doneL_set {N nx : Nat} (h2 : 2 ≤ nx) (hn : nx < N) : (doneL N nx).set nx (.bool true) = doneL N (nx + 1) := by
  apply List.ext_getElem?
  intro i
  unfold doneL
  rw [List.getElem?_set]
  by_cases hi : i < N
  · by_cases hij : nx = i
    · subst hij; simp [hi, h2]
    · rw [if_neg hij]
      simp only [List.getElem?_map, List.getElem?_range hi, Option.map_some]
      congr 3
      apply propext; omega
  · simp [hi]; omega

theorem Fin.step {w0 w : World} {cs : List Dia.Ch} {u : Value} {root db nb dnb vb g nx : Nat} (h : Fin w0 cs u root db nb dnb vb g nx w) (h2 : 2 ≤ nx) (hn : nx < cs.length + 2) :
    Fin w0 cs u root db nb dnb vb g (nx + 1) ((w.setCell ⟨g, nx, none⟩ (.bool true)).setCell ⟨nb, 0, none⟩ (.int .i64 ((nx + 1 : Nat) : Int))) ∧
    Keeps (fun k => k ≠ nb ∧ k ≠ g) w ((w.setCell ⟨g, nx, none⟩ (.bool true)).setCell ⟨nb, 0, none⟩ (.int .i64 ((nx + 1 : Nat) : Int))) := by
  obtain ⟨h1, ⟨l1, l2, l3, l4, l5, l6, l7, l8, l9, l10, l11⟩, h3, h4, h5, h6, h7⟩ := h
  have k1 : Keeps (fun k => k ≠ g) w (w.setCell ⟨g, nx, none⟩ (.bool true)) := (Keeps.refl _ w).setCell (p := ⟨g, nx, none⟩) (fun k hk _ => hk) _
  have k2 : Keeps (fun k => k ≠ nb) (w.setCell ⟨g, nx, none⟩ (.bool true)) ((w.setCell ⟨g, nx, none⟩ (.bool true)).setCell ⟨nb, 0, none⟩ (.int .i64 ((nx + 1 : Nat) : Int))) := (Keeps.refl _ _).setCell (p := ⟨nb, 0, none⟩) (fun k hk _ => hk) _
  have k3 : Keeps (fun k => k ≠ nb ∧ k ≠ g) w ((w.setCell ⟨g, nx, none⟩ (.bool true)).setCell ⟨nb, 0, none⟩ (.int .i64 ((nx + 1 : Nat) : Int))) := (k1.mono fun k hk _ => hk.2).trans (k2.mono fun k hk _ => hk.1)
  refine ⟨⟨h1.through k3 (fun k hk => by omega), ⟨l1, l2, l3, l4, l5, l6, l7, l8, l9, by have := k3.size; omega, by have := k3.size; omega⟩, ?_, ?_, ?_, ?_, ?_⟩, k3⟩
  · exact (k3.block _ ⟨l4, l5⟩ (Array.getElem?_eq_some_iff.1 h3).1).trans h3
  · have e1 : (w.setCell ⟨g, nx, none⟩ (.bool true)).heap[nb]? = some (.cells #[.int .i64 (nx : Int)] 3) := (k1.block nb l3 (Array.getElem?_eq_some_iff.1 h4).1).trans h4
    exact setCell_block (v := .int .i64 ((nx + 1 : Nat) : Int)) (i := 0) e1
  · exact (k3.block _ ⟨l6, l7⟩ (Array.getElem?_eq_some_iff.1 h5).1).trans h5
  · exact (k3.block _ ⟨l8, l9⟩ (Array.getElem?_eq_some_iff.1 h6).1).trans h6
  · have e1 := (h7.stored nx (.bool true)).1
    rw [doneL_set h2 hn] at e1
    exact e1.kept k2.grownBy (.inr (by simp [Value.ownBlock]; omega))

set_option maxHeartbeats 1600000 in
set_option maxRecDepth 100000 in
theorem visit_any (w0 : World) (cs : List Dia.Ch) (u : Value) (root db nb dnb vb g : Nat) (hu : ChsAt (fun b => b < w0.heap.size) w0 u cs) (hwf : Dia.WF 6 cs) (hl : cs.length ≤ 4000) :
    ∀ (f i nx nx' : Nat) (A : World), Dia.visit cs f i nx = some nx' → i < cs.length + 2 → 2 ≤ nx → nx ≤ cs.length + 2 → Fin w0 cs u root db nb dnb vb g nx A →
      Calls Try.prog 183 #[.int .i64 i, .pointer (some ⟨dnb, 0, none⟩), .pointer (some ⟨db, 0, none⟩), .pointer (some ⟨vb, 0, none⟩), .pointer (some ⟨nb, 0, none⟩)] A fun e A' =>
        e = .returned (.bool true) ∧ Fin w0 cs u root db nb dnb vb g nx' A' ∧ Keeps (fun k => k ≠ nb ∧ k ≠ g) A A' := by
  intro f
  induction f with
  | zero => intro i nx nx' A h; cases h
  | succ f ih =>
    intro i nx nx' A h hi hx2 hxN hF
    obtain ⟨uo, ucap, hu1, hch⟩ := hu
    obtain ⟨d0, d1, _, _⟩ := cells2 hF.d
    obtain ⟨n0, nf⟩ := cell1 hF.n
    obtain ⟨dn0, _⟩ := cell1 hF.dn
    obtain ⟨v0, _⟩ := cell1 hF.v
    subst hu1
    have hdc : A.cell? ⟨g, i, none⟩ = some (.bool (decide (2 ≤ i ∧ i < nx))) := by
      have := hF.done.cellAt i (by omega)
      rw [this, doneL, List.getElem?_map, List.getElem?_range hi]; rfl
    rw [Dia.visit] at h
    by_cases hq : i < 2 ∨ i < nx
    · rw [if_pos hq] at h
      cases h
      have HF := Lib.hid hF
      obtain ⟨n, hn⟩ : ∃ n, n = cs.length := ⟨_, rfl⟩
      rw [← hn] at hi hl hxN dn0 d0
      have HCH := Lib.hid hch
      clear hF hch ih hn hwf
      by_cases hi2 : i < 2
      · clear hq
        go_enter Try.func183, Try.ntmps183
        go_wp2
        go_ret
        exact ⟨rfl, HF.out, Keeps.refl _ _⟩
      · have hd1 : decide (2 ≤ i ∧ i < nx) = true := by simp; omega
        rw [hd1] at hdc
        clear hq hd1
        go_enter Try.func183, Try.ntmps183
        go_wp2
        go_ret
        exact ⟨rfl, HF.out, Keeps.refl _ _⟩
    · rw [if_neg hq] at h
      obtain ⟨m, rfl⟩ : ∃ m, i = m + 2 := ⟨i - 2, by omega⟩
      obtain ⟨ch, hc⟩ : ∃ ch, cs[m]? = some ch := ⟨_, List.getElem?_eq_getElem (by omega)⟩
      obtain ⟨_, _, q3, q4, _⟩ := hwf.at_ m ch hc
      obtain ⟨b, o, rfl, hb, e0, e1, e2⟩ := hch m ch hc
      have hg : cs.getD (m + 2 - 2) default = ch := by rw [List.getD_eq_getElem?_getD]; simp [hc]
      rw [hg] at h
      cases h1 : Dia.visit cs f ch.lo nx with
      | none => rw [h1] at h; cases h
      | some n1 =>
        rw [h1] at h
        simp only [Option.bind_some] at h
        cases h2 : Dia.visit cs f ch.hi n1 with
        | none => rw [h2] at h; cases h
        | some n2 =>
          rw [h2] at h
          simp only [Option.bind_some] at h
          by_cases hin : m + 2 = n2
          · rw [if_pos hin] at h
            cases h
            subst hin
            have e0' := hF.same.cell_of trivial e0
            have e1' := hF.same.cell_of trivial e1
            have e2' := hF.same.cell_of trivial e2
            have hd1 : decide (2 ≤ m + 2 ∧ m + 2 < nx) = false := by simp; omega
            rw [hd1] at hdc
            have hlo := hF.lo
            have v1 := ih ch.lo nx n1 (A.alloc (.cells #[.int .i64 (ch.v : Int), .int .i64 (ch.lo : Int), .int .i64 (ch.hi : Int)] 136)) h1 (by omega) hx2 hxN (hF.after ((Keeps.refl _ A).alloc _))
            have hn1 := visit_le h1 (by omega) hxN
            have v2 := fun A' hF' => ih ch.hi n1 (m + 2) A' h2 (by omega) (visit_ge h1 hx2) hn1 hF'
            have hCA : Hid ((A.alloc (.cells #[.int .i64 (ch.v : Int), .int .i64 (ch.lo : Int), .int .i64 (ch.hi : Int)] 136)).heap[A.heap.size]? = some (.cells #[.int .i64 (ch.v : Int), .int .i64 (ch.lo : Int), .int .i64 (ch.hi : Int)] 136)) := Lib.hid (heap_alloc_new A _)
            have hAs : Hid (nb < A.heap.size ∧ g < A.heap.size) := Lib.hid (by omega)
            obtain ⟨lo, hlo'⟩ : ∃ lo, lo = ch.lo := ⟨_, rfl⟩
            obtain ⟨hi', hhi⟩ : ∃ hi, hi = ch.hi := ⟨_, rfl⟩
            obtain ⟨vv, hvv⟩ : ∃ vv, vv = ch.v := ⟨_, rfl⟩
            rw [← hlo'] at v1 e1' hCA q3
            rw [← hhi] at v1 v2 e2' hCA q4
            rw [← hvv] at v1 e0' hCA
            have HV2 := Lib.hid v2
            have HF := Lib.hid hF
            have hvb : vb < A.heap.size := World.block_lt_of_cell? A ⟨vb, 0, none⟩ v0
            have hm2 : m + 2 < cs.length + 2 := hi
            have HM := Lib.hid hm2
            obtain ⟨n, hn⟩ : ∃ n, n = cs.length := ⟨_, rfl⟩
            have hnl : m < n := by omega
            rw [← hn] at hl dn0 d0 hi
            have HN := Lib.hid hn
            clear hF hch ih hwf hc e0 e1 e2 hg h1 h2 hq hd1 hlo hlo' hhi hvv v2 hxN hn1 hm2 hn
            go_enter Try.func183, Try.ntmps183
            go_wp2_with fail
            refine v1.mono ?_
            rintro e w1 ⟨rfl, hF1, hK1⟩
            have hc1 : w1.heap[A.heap.size]? = _ := (hK1.block A.heap.size ⟨by have := hAs.out; omega, by have := hAs.out; omega⟩ (by simp)).trans hCA.out
            obtain ⟨x0, x1, x2, _, _, _⟩ := cells3 hc1
            obtain ⟨v0', _⟩ := cell1 hF1.v
            have HF1 := Lib.hid hF1
            have HK1 := Lib.hid hK1
            have HC1 := Lib.hid hc1
            clear v1 hF1 hK1 hc1
            go_wp2_with fail
            refine (HV2.out w1 HF1.out).mono ?_
            rintro e w2 ⟨rfl, hF2, hK2⟩
            obtain ⟨n0', nf'⟩ := cell1 hF2.n
            obtain ⟨dn0', _⟩ := cell1 hF2.dn
            have hdc2 : w2.cell? ⟨g, m + 2, none⟩ = some (.bool (decide (2 ≤ m + 2 ∧ m + 2 < m + 2))) := by
              have := hF2.done.cellAt (m + 2) (by have := HM.out; omega)
              rw [this, doneL, List.getElem?_map, List.getElem?_range HM.out]; rfl
            have hdf2 := hF2.done.frozenAt (m + 2)
            obtain ⟨hst, hkk⟩ := hF2.step (by omega) HM.out
            have hgn : ¬ g = nb := fun e => hF2.lo.2.2.1 e.symm
            have hkA : Keeps (fun k => k ≠ nb ∧ k ≠ g) A w2 := (((Keeps.refl _ A).alloc _).trans HK1.out).trans hK2
            have HST := Lib.hid hst
            have HKK := Lib.hid (hkA.trans hkk)
            rw [← HN.out] at dn0'
            clear hst hkk hkA hK2 hF2
            go_wp2
            go_ret
            exact ⟨rfl, HST.out, HKK.out⟩
          · rw [if_neg hin] at h; cases h

theorem fin_start (w w1 : World) (cs : List Dia.Ch) (u : Value) (root : Nat) (hS : Same ((w.alloc (.cells #[u, .int .i64 (root : Int)] 45)).alloc (.cells #[.int .i64 2] 3)) w1)
    (hown : w1.ownsRow w.heap.size 4 1 (.slice (some ⟨w.heap.size + 1 + 1, 0, none⟩) (cs.length + 2) (cs.length + 2)) (cs.length + 2) (doneL (cs.length + 2) 2)) :
    Fin w cs u root w.heap.size (w.heap.size + 1) w1.heap.size (w1.heap.size + 1) (w.heap.size + 1 + 1) 2
      ((w1.alloc (.cells #[.slice (some ⟨w.heap.size + 1 + 1, 0, none⟩) (cs.length + 2) (cs.length + 2)] 55)).alloc
        (.cells #[.func (.func 183) #[] #[.pointer (some ⟨w1.heap.size, 0, none⟩), .pointer (some ⟨w.heap.size, 0, none⟩), .pointer (some ⟨w1.heap.size + 1, 0, none⟩), .pointer (some ⟨w.heap.size + 1, 0, none⟩)]] 199)) := by
  obtain ⟨W1, h1⟩ : ∃ W1, W1 = w.alloc (.cells #[u, .int .i64 (root : Int)] 45) := ⟨_, rfl⟩
  have s1 : W1.heap.size = w.heap.size + 1 := by rw [h1]; simp
  rw [← h1] at hS
  obtain ⟨W2, h2⟩ : ∃ W2, W2 = W1.alloc (.cells #[.int .i64 2] 3) := ⟨_, rfl⟩
  have s2 : W2.heap.size = w.heap.size + 1 + 1 := by rw [h2]; simp [s1]
  rw [← h2] at hS
  have hlt : w.heap.size + 1 + 1 < w1.heap.size := (hown.lt _ rfl).2
  obtain ⟨W3, h3⟩ : ∃ W3, W3 = w1.alloc (.cells #[.slice (some ⟨w.heap.size + 1 + 1, 0, none⟩) (cs.length + 2) (cs.length + 2)] 55) := ⟨_, rfl⟩
  have s3 : W3.heap.size = w1.heap.size + 1 := by rw [h3]; simp
  rw [← h3]
  obtain ⟨W4, h4⟩ : ∃ W4, W4 = W3.alloc (.cells #[.func (.func 183) #[] #[.pointer (some ⟨w1.heap.size, 0, none⟩), .pointer (some ⟨w.heap.size, 0, none⟩), .pointer (some ⟨w1.heap.size + 1, 0, none⟩), .pointer (some ⟨w.heap.size + 1, 0, none⟩)]] 199) := ⟨_, rfl⟩
  have s4 : W4.heap.size = w1.heap.size + 1 + 1 := by rw [h4]; simp [s3]
  rw [← h4]
  have k1 : Same w W1 := by rw [h1]; exact (Keeps.refl _ _).alloc _
  have k2 : Same W1 W2 := by rw [h2]; exact (Keeps.refl _ _).alloc _
  have k3 : Same w1 W3 := by rw [h3]; exact (Keeps.refl _ _).alloc _
  have k4 : Same W3 W4 := by rw [h4]; exact (Keeps.refl _ _).alloc _
  refine ⟨(((k1.trans k2).trans hS).trans k3).trans k4, by omega, ?_, ?_, ?_, ?_, ?_⟩
  · have e : W1.heap[w.heap.size]? = some (.cells #[u, .int .i64 (root : Int)] 45) := by rw [h1]; exact heap_alloc_new w _
    exact ((((k2.trans hS).trans k3).trans k4).block _ trivial (by omega)).trans e
  · have e : W2.heap[w.heap.size + 1]? = some (.cells #[.int .i64 2] 3) := by rw [h2, ← s1]; exact heap_alloc_new W1 _
    exact (((hS.trans k3).trans k4).block _ trivial (by omega)).trans e
  · have e : W3.heap[w1.heap.size]? = some (.cells #[.slice (some ⟨w.heap.size + 1 + 1, 0, none⟩) (cs.length + 2) (cs.length + 2)] 55) := by rw [h3]; exact heap_alloc_new w1 _
    exact (k4.block _ trivial (by omega)).trans e
  · rw [h4, ← s3]; exact heap_alloc_new W3 _
  · exact hown.kept (same_grown (k3.trans k4)) own_ne
theorem doneL_start (N : Nat) : (madeCells (Value.bool false).cells (N * 1)).toList = doneL N 2 := by
  rw [show (Value.bool false).cells = #[Value.bool false] from rfl, Nat.mul_one, toList_madeCells_one]
  apply List.ext_getElem?
  intro j
  unfold doneL
  by_cases hj : j < N
  · rw [List.getElem?_replicate, if_pos hj, List.getElem?_map, List.getElem?_range hj]
    have : decide (2 ≤ j ∧ j < 2) = false := by rw [decide_eq_false_iff_not]; omega
    simp only [Option.map_some, this]
  · rw [List.getElem?_replicate, if_neg hj, List.getElem?_eq_none (by simp; omega)]

set_option maxRecDepth 100000 in
theorem finished_any (cs : List Dia.Ch) (root : Nat) (hwf : Dia.WF 6 cs) (hl : cs.length ≤ 4000) (hr : root < cs.length + 2) (f : Nat) (hv : Dia.visit cs f root 2 = some (cs.length + 2)) (w : World) (u : Value) (hu : ChsAt (fun b => b < w.heap.size) w u cs) :
    Calls Try.prog 125 #[.agg #[u, .int .i64 root]] w fun e w' => e = .returned (.bool true) ∧ Same w w' := by
  obtain ⟨i0, hi0, hz0, hz1, hz2⟩ := info_parts info_bool
  have hvis := fun db nb dnb vb g A hF => visit_any w cs u root db nb dnb vb g hu hwf hl f root 2 (cs.length + 2) A hv hr (by omega) (by omega) hF
  obtain ⟨uo, ucap, rfl, hch⟩ := hu
  obtain ⟨n, hn⟩ : ∃ n, n = cs.length := ⟨_, rfl⟩
  have HV := Lib.hid hvis
  rw [← hn] at hl
  rw [← hn]
  have HN := Lib.hid hn
  clear hvis hch hwf hv hn hr
  go_enter Try.func125, Try.ntmps125
  go_wp2_with (refine wpList_make_full _ rfl _ _ 55 rfl w.heap.size 4 i0 (.bool false) 1 Try.underlying55 hi0 hz0 hz1 .i64 .i64 _ _ (n + 2) rfl rfl rfl rfl (by rw [hz2]; omega) (by unfold maxLen; omega) (by simp; omega) ?_; intro w1 hown hgrow; have hS1 : Same _ w1 := grown_keeps hgrow (fun _ h => by cases h); have db0 : w1.cell? ⟨w.heap.size, 0, none⟩ = some (.slice uo n ucap) := hS1.cell_of trivial (by simp); have db1 : w1.cell? ⟨w.heap.size, 1, none⟩ = some (.int .i64 (root : Int)) := hS1.cell_of trivial (by simp); have hlt : w.heap.size + 1 + 1 < w1.heap.size := (by have := (hown.lt _ rfl).2; simpa using this); have hlt0 : w.heap.size < w1.heap.size := (by omega); have hlt1 : w.heap.size + 1 < w1.heap.size := (by omega))
  rw [doneL_start] at hown
  have hF := fin_start w w1 cs (.slice uo n ucap) root hS1 (by rw [← HN.out]; simpa using hown)
  rw [← HN.out] at hF
  rw [← HN.out] at HV
  refine (HV.out _ _ _ _ _ _ hF).mono ?_
  rintro e w2 ⟨rfl, hF2, hK2⟩
  obtain ⟨d0, d1, _, _⟩ := cells2 hF2.d
  obtain ⟨n0, _⟩ := cell1 hF2.n
  have hS2 := hF2.same
  clear hF hF2 hK2 hown hgrow hS1 db0 db1
  go_wp2
  go_ret
  exact ⟨rfl, hS2⟩
end Go.Proofs.Ytpokiglgjmcdoaa
