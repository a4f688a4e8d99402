/-
  dia.Both at 'and'; dia.Of.
-/
import Derived.Test.YtpokiglgjmcdoaaNot
import Derived.Deep.RegionHeld3
import Derived.Deep.DrawnRows
set_option linter.unusedVariables false
set_option linter.unusedSimpArgs false
namespace Go.Proofs.Ytpokiglgjmcdoaa
open Go.ChangeShapes Go.WideShapes Go.ChangeAt Go.RowKit Go.BigFrame Go.Shelf Go.Maps
open Um
attribute [local go_sem ↓] Go.wp_at_zero Go.wp_at_succ

/-- boxes that lie -/
def Boxes (w wr : World) (l : List (Nat × Obj)) : Prop := Same w wr ∧ ∀ x ∈ l, w.heap.size ≤ x.1 ∧ wr.heap[x.1]? = some x.2
theorem Boxes.nil (w : World) : Boxes w w [] := ⟨Keeps.refl _ _, by simp⟩
theorem Boxes.after {w wr w' : World} {l : List (Nat × Obj)} (h : Boxes w wr l) (hk : Same wr w') : Boxes w w' l :=
  ⟨h.1.trans hk, fun x hx => ⟨(h.2 x hx).1, (hk.block _ trivial (Array.getElem?_eq_some_iff.1 (h.2 x hx).2).1).trans (h.2 x hx).2⟩⟩
theorem Boxes.alloc {w wr : World} {l : List (Nat × Obj)} (h : Boxes w wr l) (o : Obj) : Boxes w (wr.alloc o) ((wr.heap.size, o) :: l) := by
  have hk : Same wr (wr.alloc o) := (Keeps.refl _ _).alloc _
  refine ⟨h.1.trans hk, fun x hx => ?_⟩
  rcases List.mem_cons.1 hx with rfl | hx
  · exact ⟨h.1.size, heap_alloc_new wr o⟩
  · exact (h.after hk).2 x hx
theorem Boxes.at {w wr : World} {l : List (Nat × Obj)} (h : Boxes w wr l) {i : Nat} {o : Obj} (hm : (i, o) ∈ l) : wr.heap[i]? = some o := (h.2 _ hm).2
theorem Boxes.lo {w wr : World} {l : List (Nat × Obj)} (h : Boxes w wr l) {i : Nat} {o : Obj} (hm : (i, o) ∈ l) : w.heap.size ≤ i := (h.2 _ hm).1

theorem andL_length {t u : List Nat} (ht : t.length = 64) (hu : u.length = 64) : (Dia.andL t u).length = 64 := by simp [Dia.andL, ht, hu]
theorem andL_bits (t u : List Nat) : ∀ x ∈ Dia.andL t u, x < 2 := by
  intro x hx
  obtain ⟨i, hi⟩ := List.getElem?_of_mem hx
  unfold Dia.andL at hi
  rw [List.getElem?_zipWith] at hi
  split at hi
  · cases hi; split <;> omega
  · cases hi

set_option maxHeartbeats 1600000 in
set_option maxRecDepth 100000 in
theorem both_any (d1 d2 : List Dia.Ch × Nat) (hd1 : Dia.Good 6 d1) (hd2 : Dia.Good 6 d2) (w : World) (u1 u2 : Value) (hu1 : ChsAt (fun b => b < w.heap.size) w u1 d1.1) (hu2 : ChsAt (fun b => b < w.heap.size) w u2 d2.1) :
    Calls Try.prog 25 #[.int .i64 6, .int .i64 8, .agg #[u1, .int .i64 d1.2], .agg #[u2, .int .i64 d2.2]] w fun e w' => ∃ v, e = .returned (.tuple #[.agg #[v, .int .i64 ((Dia.built 6 (Dia.andL (Dia.diaTab 6 d1) (Dia.diaTab 6 d2))).2 : Int)], .agg #[.int .i64 0, .int .i64 0]]) ∧
      ChsAt (fun b => w.heap.size ≤ b) w' v (Dia.built 6 (Dia.andL (Dia.diaTab 6 d1) (Dia.diaTab 6 d2))).1 ∧ Same w w' := by
  obtain ⟨cs1, root1⟩ := d1
  obtain ⟨cs2, root2⟩ := d2
  obtain ⟨hwf1, hr1, hfew1, f1, hv1⟩ := hd1
  obtain ⟨hwf2, hr2, hfew2, f2, hv2⟩ := hd2
  simp only at hwf1 hr1 hfew1 hv1 hu1 hwf2 hr2 hfew2 hv2 hu2
  have h64 : (2 : Nat) ^ 6 = 64 := by decide
  have hl1 : cs1.length ≤ 4000 := by omega
  have hl2 : cs2.length ≤ 4000 := by omega
  have hat1 : ∀ W, Same w W → ChsAt (fun b => b < W.heap.size) W u1 cs1 := fun W hW => ChsAt.lt (hu1.same hW)
  have hat2 : ∀ W, Same w W → ChsAt (fun b => b < W.heap.size) W u2 cs2 := fun W hW => ChsAt.lt (hu2.same hW)
  have HC1 := Lib.hid fun W (hW : Same w W) => check_any cs1 root1 hwf1 hl1 hr1 f1 hv1 W u1 (hat1 W hW)
  have HC2 := Lib.hid fun W (hW : Same w W) => check_any cs2 root2 hwf2 hl2 hr2 f2 hv2 W u2 (hat2 W hW)
  have htab1 := fun W (hW : Same w W) => tableOf_any cs1 root1 hwf1 hr1 hl1 _ W u1 (hat1 W hW)
  have htab2 := fun W (hW : Same w W) => tableOf_any cs2 root2 hwf2 hr2 hl2 _ W u2 (hat2 W hW)
  rw [diaTab_eq] at htab1 htab2
  have htl1 := diaTab_length cs1 root1
  have htx1 := diaTab_bits cs1 root1
  have htl2 := diaTab_length cs2 root2
  have htx2 := diaTab_bits cs2 root2
  generalize Dia.diaTab 6 (cs1, root1) = t1 at *
  generalize Dia.diaTab 6 (cs2, root2) = t2 at *
  have HCB := Lib.hid fun W va vb (ha : RowAt (fun _ => True) W va (u8s t1)) (hb : RowAt (fun _ => True) W vb (u8s t2)) => combined_any (fun _ => True) W va vb t1 t2 ha hb htl1 htl2 htx1 htx2
  have HBU := Lib.hid fun W tv hrow => built_any W tv (Dia.andL t1 t2) (andL_length htl1 htl2) (andL_bits t1 t2) hrow
  have HT1 := Lib.hid htab1
  have HT2 := Lib.hid htab2
  generalize Dia.andL t1 t2 = t3 at *
  generalize Dia.built 6 t3 = d' at *
  have hst := (((((Boxes.nil w).alloc (.cells #[u1, .int .i64 (root1 : Int)] 45)).alloc (.cells #[u2, .int .i64 (root2 : Int)] 45)).alloc (.cells #[.slice none 0 0, .int .i64 0] 45)).alloc (.cells #[.int .i64 0, .int .i64 0] 27))
  simp only [World.size_alloc] at hst
  have HST := Lib.hid hst
  clear htab1 htab2 htl1 htx1 htl2 htx2 hwf1 hr1 hfew1 hv1 hl1 hat1 hu1 hwf2 hr2 hfew2 hv2 hl2 hat2 hu2 hst
  go_enter Try.func25, Try.ntmps25
  go_wp2_with fail
  refine (HC1.out _ HST.out.1).mono ?_
  rintro e w1 ⟨rfl, hS1⟩
  have hB1 := HST.out.after hS1
  obtain ⟨a0, a1, _, _⟩ := cells2 (hB1.at (i := w.heap.size) (o := .cells #[u1, .int .i64 (root1 : Int)] 45) (by simp))
  obtain ⟨b0, b1, _, _⟩ := cells2 (hB1.at (i := w.heap.size + 1) (o := .cells #[u2, .int .i64 (root2 : Int)] 45) (by simp))
  have hl1 : w.heap.size + 1 < w1.heap.size := World.block_lt_of_cell? w1 ⟨w.heap.size + 1, 0, none⟩ b0
  have hl1' : w.heap.size < w1.heap.size := by omega
  have HB1 := Lib.hid hB1
  clear hS1 hB1
  go_wp2_with fail
  refine (HC2.out (w1.alloc (.cells #[.int .i64 0, .int .i64 0] 27)) (HB1.out.1.alloc _)).mono ?_
  rintro e w2 ⟨rfl, hS2⟩
  have hB2 := (HB1.out.after ((Keeps.refl _ w1).alloc _)).after hS2
  have HB2 := Lib.hid hB2
  clear hS2 hB2 a0 a1 b0 b1
  go_wp2_with fail
  obtain ⟨W, hW⟩ : ∃ W, W = w2.alloc (.cells #[.int .i64 0, .int .i64 0] 27) := ⟨_, rfl⟩
  rw [← hW]
  have hBW := HB2.out.after ((Keeps.refl _ w2).alloc (.cells #[.int .i64 0, .int .i64 0] 27))
  rw [← hW] at hBW
  clear hW
  obtain ⟨a0, a1, _, _⟩ := cells2 (hBW.at (i := w.heap.size) (o := .cells #[u1, .int .i64 (root1 : Int)] 45) (by simp))
  obtain ⟨b0, b1, _, _⟩ := cells2 (hBW.at (i := w.heap.size + 1) (o := .cells #[u2, .int .i64 (root2 : Int)] 45) (by simp))
  have KS : Hid (∀ X, Same W X → X.cell? ⟨w.heap.size, 0, none⟩ = some u1 ∧ X.cell? ⟨w.heap.size, 1, none⟩ = some (.int .i64 (root1 : Int)) ∧ X.cell? ⟨w.heap.size + 1, 0, none⟩ = some u2 ∧ X.cell? ⟨w.heap.size + 1, 1, none⟩ = some (.int .i64 (root2 : Int))) :=
    Lib.hid fun X hX => ⟨hX.cell_of trivial a0, hX.cell_of trivial a1, hX.cell_of trivial b0, hX.cell_of trivial b1⟩
  have KB : Hid (∀ X Y, Same W X → Keeps (fun k => k ≠ w.heap.size + 1 + 1 ∧ k ≠ w.heap.size + 1 + 1 + 1) X Y → Y.cell? ⟨w.heap.size, 0, none⟩ = some u1 ∧ Y.cell? ⟨w.heap.size, 1, none⟩ = some (.int .i64 (root1 : Int)) ∧ Y.cell? ⟨w.heap.size + 1, 0, none⟩ = some u2 ∧ Y.cell? ⟨w.heap.size + 1, 1, none⟩ = some (.int .i64 (root2 : Int))) :=
    Lib.hid fun X Y hX hY => ⟨hY.cell_of (S := fun k => k ≠ w.heap.size + 1 + 1 ∧ k ≠ w.heap.size + 1 + 1 + 1) (by show w.heap.size ≠ w.heap.size + 1 + 1 ∧ w.heap.size ≠ w.heap.size + 1 + 1 + 1; omega) (hX.cell_of trivial a0), hY.cell_of (S := fun k => k ≠ w.heap.size + 1 + 1 ∧ k ≠ w.heap.size + 1 + 1 + 1) (by show w.heap.size ≠ w.heap.size + 1 + 1 ∧ w.heap.size ≠ w.heap.size + 1 + 1 + 1; omega) (hX.cell_of trivial a1),
      hY.cell_of (S := fun k => k ≠ w.heap.size + 1 + 1 ∧ k ≠ w.heap.size + 1 + 1 + 1) (by show w.heap.size + 1 ≠ w.heap.size + 1 + 1 ∧ w.heap.size + 1 ≠ w.heap.size + 1 + 1 + 1; omega) (hX.cell_of trivial b0), hY.cell_of (S := fun k => k ≠ w.heap.size + 1 + 1 ∧ k ≠ w.heap.size + 1 + 1 + 1) (by show w.heap.size + 1 ≠ w.heap.size + 1 + 1 ∧ w.heap.size + 1 ≠ w.heap.size + 1 + 1 + 1; omega) (hX.cell_of trivial b1)⟩
  have HBW := Lib.hid hBW
  clear hBW
  go_region_held3 (fun X => X.cell? ⟨w.heap.size, 0, none⟩ = some u1 ∧ X.cell? ⟨w.heap.size, 1, none⟩ = some (.int .i64 (root1 : Int)) ∧ X.cell? ⟨w.heap.size + 1, 0, none⟩ = some u2 ∧ X.cell? ⟨w.heap.size + 1, 1, none⟩ = some (.int .i64 (root2 : Int)))
    (first
      | exact KS.out _ (Keeps.refl _ _)
      | exact KS.out _ ((Keeps.refl _ _).drew)
      | exact KS.out _ hX1
      | exact KS.out _ hX2
      | exact KS.out _ hX3
      | exact KS.out _ hX4
      | exact KB.out x4 _ hX4 (by repeat (first | exact Keeps.refl _ _ | refine Keeps.setCell (p := ⟨_, _, none⟩) ?_ (fun k hk _ => by first | exact hk.1 | exact hk.2) _)))
    (first
      | (go_at_call_of 75 (Value.agg #[u1, .int .i64 (root1 : Int)]); refine (HT1.out _ ?_).mono ?_; (exact HBW.out.1.drew); rintro e x1 ⟨tv1, rfl, hown1, hx1⟩; have hX1 : Same W x1 := ((Keeps.refl _ W).drew).trans hx1; have R1 := Lib.hid ((rowAt_of_owns hown1).mono (T := fun _ => True) (fun _ _ _ => trivial)); clear hown1)
      | (go_at_call_of 75 (Value.agg #[u2, .int .i64 (root2 : Int)]); refine (HT2.out _ ?_).mono ?_; (exact HBW.out.1.trans hX1); rintro e x2 ⟨tv2, rfl, hown2, hx2⟩; have hX2 : Same W x2 := hX1.trans hx2; have R2 := Lib.hid ((rowAt_of_owns hown2).mono (T := fun _ => True) (fun _ _ _ => trivial)); have R1' := Lib.hid (R1.out.same hx2); clear hown2)
      | (go_at_call 74; refine (HCB.out _ _ _ R1'.out R2.out).mono ?_; rintro e x3 ⟨tv3, rfl, hown3, hx3⟩; have hX3 : Same W x3 := hX2.trans hx3; have R3 := Lib.hid ((rowAt_of_owns hown3).mono (T := fun _ => True) (fun _ _ _ => trivial)); clear hown3)
      | (go_at_call 69; refine (HBU.out _ _ R3.out).mono ?_; rintro e x4 ⟨v, rfl, ⟨ao, cap', rfl, hat⟩, hx4⟩; have hX4 : Same W x4 := hX3.trans hx4; have hB4 := HBW.out.after hX4; obtain ⟨p1, p2, p3, p4⟩ := cells2 (hB4.at (i := w.heap.size + 1 + 1) (o := .cells #[.slice none 0 0, .int .i64 0] 45) (by simp)); obtain ⟨q1, q2, q3, q4⟩ := cells2 (hB4.at (i := w.heap.size + 1 + 1 + 1) (o := .cells #[.int .i64 0, .int .i64 0] 27) (by simp)); have HAT := Lib.hid hat; have HB4 := Lib.hid hB4; clear hB4 hat))
  all_goals
    go_wp2
    have hS4 : Same w x4 := HB4.out.1
    have hs3 : w.heap.size + 1 + 1 + 1 < x3.heap.size := by
      have h0 := (Array.getElem?_eq_some_iff.1 (HBW.out.at (i := w.heap.size + 1 + 1 + 1) (o := .cells #[.int .i64 0, .int .i64 0] 27) (by simp))).1
      have := hX3.size
      omega
    refine bodyPost_ret (v := .tuple #[.agg #[.slice ao d'.1.length cap', .int .i64 (d'.2 : Int)], .agg #[.int .i64 0, .int .i64 0]]) (by simp [results, Try.results25, go_sem, p1, p2, q1, q2]) rfl ⟨_, rfl, ?_, ?_⟩
    · have h : ChsAt (fun b => x3.heap.size ≤ b) x4 (.slice ao d'.1.length cap') d'.1 := ⟨ao, cap', rfl, HAT.out⟩
      refine (h.keeps (T := fun b => w.heap.size + 1 + 1 + 1 < b) ?_ fun b hb => by omega).mono fun b hb => by omega
      exact keeps_two (S := fun b => w.heap.size + 1 + 1 + 1 < b) x4 _ _ _ _ _ _ (fun k (hk : w.heap.size + 1 + 1 + 1 < k) => by omega) (fun k (hk : w.heap.size + 1 + 1 + 1 < k) => by omega)
    · refine Same.through hS4 (S := fun b => b < w.heap.size) ?_ (fun b hb => hb)
      exact keeps_two (S := fun b => b < w.heap.size) x4 _ _ _ _ _ _ (fun k (hk : k < w.heap.size) => by omega) (fun k (hk : k < w.heap.size) => by omega)
end Go.Proofs.Ytpokiglgjmcdoaa
