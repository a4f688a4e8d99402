/-
  The references' functions on terms, sixth part: what is wrong with a term; is it vast?
-/
import Derived.Test.YtpokiglgjmcdoaaRef5
set_option linter.unusedVariables false
set_option linter.unusedSimpArgs false
namespace Go.Proofs.Ytpokiglgjmcdoaa
open Go.ChangeShapes Go.WideShapes Go.ChangeAt Go.RowKit Go.BigFrame
open Um

set_option maxHeartbeats 1000000 in
theorem tree_any (t : Tr) (S : Nat → Prop) (w : World) (c0 c1 : Value) (ht : TrAt S w t c0 c1) (hsz : t.size ≤ 2097152) :
    Calls Try.prog 15 #[.agg #[c0, c1]] w fun e w' => e = .returned (.agg #[.int .i64 t.fault.1, .int .i64 t.fault.2]) ∧ Same w w' := by
  have hcs := fun W c0 c1 (h : TrAt S W t c0 c1) => size_any t S W c0 c1 h (by omega)
  have hcd := fun W c0 c1 (h : TrAt S W t c0 c1) => deep_any t S W c0 c1 h (by omega)
  have hcn := fun W c0 c1 (h : TrAt S W t c0 c1) => nodes_any t 0 S W c0 c1 h (by omega)
  have hds := Tr.deep_le_size t
  obtain ⟨p1, p2, p3, hp⟩ : ∃ p1 p2 p3, t.nodes 0 = ((p1, p2), p3) := ⟨_, _, _, rfl⟩
  rw [hp] at hcn
  have hf : t.fault = if 40 < t.size then (2, 0) else if 12 < t.deep then (10, 0) else (p1, p2) := by rw [Tr.fault, hp]
  have HF := Lib.hid hf; clear hf hp
  have hfc := fun (c n : Int) (W : World) => fault_any c n W
  obtain ⟨n1, hn1⟩ : ∃ n, n = t.size := ⟨_, rfl⟩
  obtain ⟨n2, hn2⟩ : ∃ n, n = t.deep := ⟨_, rfl⟩
  rw [← hn1] at hcs HF hsz hds
  rw [← hn2] at hcd HF hds
  clear hn1 hn2
  by_cases h1 : 40 < n1
  · have HR : Hid (t.fault = (2, 0)) := by have := HF.out; rw [if_pos h1] at this; exact this
    go_enter Try.func15, Try.ntmps15
    go_wp2_with fail
    refine (hcs _ _ _ (ht.same (((Keeps.refl _ w).alloc _).alloc _))).mono ?_
    rintro e w1 ⟨rfl, hS1⟩
    obtain ⟨hcl, hfz⟩ := bcell hS1
    have hz := hS1.size
    simp at hz
    go_wp2_with fail
    refine (hfc _ _ _).mono ?_
    rintro e w2 ⟨rfl, hS2'⟩
    have hS2 := hS1.trans hS2'; clear hcl hfz
    obtain ⟨hcl, hfz⟩ := bcell hS2
    have hz2 := hS2.size
    go_wp2
    exact bodyPost_ret (v := .agg #[.int .i64 2, .int .i64 0]) (by simp [results, Try.results15, go_sem, hcl, hfz, hz]) rfl
      ⟨by rw [HR.out]; rfl, (((((Keeps.refl _ w).alloc _).alloc _).trans hS2).setCell (fun k _ hk => by show k ≠ w.heap.size + 1; omega) _).setCell (fun k _ hk => by show k ≠ w.heap.size + 1; omega) _⟩
  · by_cases h2 : 12 < n2
    · have HR : Hid (t.fault = (10, 0)) := by have := HF.out; rw [if_neg h1, if_pos h2] at this; exact this
      go_enter Try.func15, Try.ntmps15
      go_wp2_with fail
      refine (hcs _ _ _ (ht.same (((Keeps.refl _ w).alloc _).alloc _))).mono ?_
      rintro e w1 ⟨rfl, hS1⟩
      obtain ⟨hcl, hfz⟩ := bcell hS1
      have hz := hS1.size
      simp at hz
      go_wp2_with fail
      refine (hcd _ _ _ ((ht.same (((Keeps.refl _ w).alloc _).alloc _)).same hS1)).mono ?_
      rintro e w2 ⟨rfl, hS2'⟩
      have hS2 := hS1.trans hS2'; clear hcl hfz
      obtain ⟨hcl, hfz⟩ := bcell hS2
      have hz2 := hS2.size
      go_wp2_with fail
      refine (hfc _ _ _).mono ?_
      rintro e w3 ⟨rfl, hS3'⟩
      have hS3 := hS2.trans hS3'; clear hcl hfz
      obtain ⟨hcl, hfz⟩ := bcell hS3
      go_wp2
      exact bodyPost_ret (v := .agg #[.int .i64 10, .int .i64 0]) (by simp [results, Try.results15, go_sem, hcl, hfz, hz]) rfl
        ⟨by rw [HR.out]; rfl, (((((Keeps.refl _ w).alloc _).alloc _).trans hS3).setCell (fun k _ hk => by show k ≠ w.heap.size + 1; omega) _).setCell (fun k _ hk => by show k ≠ w.heap.size + 1; omega) _⟩
    · have HR : Hid (t.fault = (p1, p2)) := by have := HF.out; rw [if_neg h1, if_neg h2] at this; exact this
      go_enter Try.func15, Try.ntmps15
      go_wp2_with fail
      refine (hcs _ _ _ (ht.same (((Keeps.refl _ w).alloc _).alloc _))).mono ?_
      rintro e w1 ⟨rfl, hS1⟩
      obtain ⟨hcl, hfz⟩ := bcell hS1
      have hz := hS1.size
      simp at hz
      go_wp2_with fail
      refine (hcd _ _ _ ((ht.same (((Keeps.refl _ w).alloc _).alloc _)).same hS1)).mono ?_
      rintro e w2 ⟨rfl, hS2'⟩
      have hS2 := hS1.trans hS2'; clear hcl hfz
      obtain ⟨hcl, hfz⟩ := bcell hS2
      have hz2 := hS2.size
      go_wp2_with fail
      refine (hcn _ _ _ ((ht.same (((Keeps.refl _ w).alloc _).alloc _)).same hS2)).mono ?_
      rintro e w3 ⟨rfl, hS3'⟩
      have hS3 := hS2.trans hS3'; clear hcl hfz
      obtain ⟨hcl, hfz⟩ := bcell hS3
      have hz5 := hS3.size
      simp at hz5
      have hz6 : w.heap.size + 1 < w3.heap.size := by omega
      go_wp2
      exact bodyPost_ret (v := .agg #[.int .i64 p1, .int .i64 p2]) (by simp [results, Try.results15, go_sem, hcl, hfz, hz, hz6]) rfl
        ⟨by rw [HR.out], ((((((Keeps.refl _ w).alloc _).alloc _).trans hS3).setCell (fun k _ hk => by show k ≠ w.heap.size + 1; omega) _).setCell (fun k _ hk => by show k ≠ w.heap.size + 1; omega) _).alloc _⟩

theorem vast_any (t : Tr) (S : Nat → Prop) (w : World) (c0 c1 : Value) (ht : TrAt S w t c0 c1) (hsz : t.size ≤ 2097152) :
    Calls Try.prog 14 #[.agg #[c0, c1]] w fun e w' => e = .returned (.bool (decide (200 < t.size))) ∧ Same w w' := by
  have hc := size_any t S (w.alloc (.cells #[c0, c1] 24)) c0 c1 (ht.same ((Keeps.refl _ w).alloc _)) (by omega)
  go_enter Try.func14, Try.ntmps14
  go_wp2_with fail
  refine hc.mono ?_
  rintro e w1 ⟨rfl, hS1⟩
  go_wp2
  go_ret
  exact ⟨ret_bool (by rw [decide_eq_decide]; omega), ((Keeps.refl _ w).alloc _).trans hS1⟩

theorem lfault_any (c n : Int) (w : World) : Calls Try.prog 16 #[.int .i64 c, .int .i64 n] w fun e w' => e = .returned (.agg #[.int .i64 c, .int .i64 n]) ∧ Same w w' := by
  go_enter Try.func16, Try.ntmps16
  go_wp2
  exact bodyPost_ret (v := .agg #[.int .i64 c, .int .i64 n]) (by simp [results, Try.results16, go_sem]) rfl ⟨rfl, by
    exact ((Keeps.refl _ w).alloc _)⟩
end Go.Proofs.Ytpokiglgjmcdoaa
