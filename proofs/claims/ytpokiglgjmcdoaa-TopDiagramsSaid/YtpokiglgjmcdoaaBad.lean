/-
  cnf.Bad, cnf.Check at clauses over six variables.
-/
import Derived.Test.YtpokiglgjmcdoaaBoth
set_option linter.unusedVariables false
set_option linter.unusedSimpArgs false
namespace Go.Proofs.Ytpokiglgjmcdoaa
open Go.ChangeShapes Go.WideShapes Go.ChangeAt Go.RowKit Go.BigFrame Go.Shelf
open Um

theorem bad1_any (y x : Int) (xb : Nat) (hy : -4294967296 ≤ y ∧ y ≤ 4294967296) (hx : -4294967296 ≤ x ∧ x ≤ 4294967296) (w : World) (hc : w.cell? ⟨xb, 0, none⟩ = some (.int .i64 x)) :
    Calls Try.prog 179 #[.int .i64 y, .pointer (some ⟨xb, 0, none⟩)] w fun e w' => e = .returned (.bool ((y.natAbs : Int) == (x.natAbs : Int))) ∧ Same w w' := by
  have c1 := fun p => ext_calls (p := p) ((cvar_any y hy (ext w p)).mono fun e w' h => ⟨h.1, h.2 ▸ Keeps.refl _ _⟩)
  have c2 := fun p => ext_calls (p := p) ((cvar_any x hx (ext w p)).mono fun e w' h => ⟨h.1, h.2 ▸ Keeps.refl _ _⟩)
  have hX := cell_ext hc
  generalize (y.natAbs : Int) = a at *
  generalize (x.natAbs : Int) = b at *
  go_enter Try.func179, Try.ntmps179
  go_wp2_with fail
  (refine wp_region_ext (by kernel_rfl) (by kernel_rfl) ?_; (repeat (go_big_quiet_step ((first | (with_reducible exact c1 _) | (with_reducible exact c2 _))))); refine wpQuiet_nil ?_; rintro _ ⟨pq, rfl⟩)
  go_wp2
  go_ret
  exact ⟨rfl, same_ext w pq⟩

theorem row_len {S : Nat → Prop} {w : World} {v : Value} {l : List Value} (h : RowAt S w v l) : ∃ ao cap, v = .slice ao l.length cap ∧ l.length ≤ cap ∧ cap ≤ 9223372036854775807 ∧ (1 ≤ l.length → ∃ b o, ao = some ⟨b, o, none⟩) := by
  rcases h with ⟨⟨a, cap, h1, h3⟩, rfl⟩ | ⟨b, o, cap, h1, h2, h3, h4, h5, h6⟩
  · exact ⟨a, cap, h1, by simp, h3, by simp⟩
  · exact ⟨_, cap, h1, h2, h3, fun _ => ⟨b, o, rfl⟩⟩

set_option maxRecDepth 100000 in
theorem bad_any (p : List Int) (hp : ClOk 6 3 p) (S : Nat → Prop) (w : World) (v : Value) (hv : RowAt S w v (p.map (Value.int .i64))) :
    Calls Try.prog 117 #[v, .int .i64 6] w fun e w' => e = .returned (.tuple #[.int .i64 0, .int .i64 0]) ∧ Same w w' := by
  have hv0 := hv
  obtain ⟨ao, cap, rfl, hc1, hc2, hsome⟩ := row_len hv
  obtain ⟨h3, hb, hnd⟩ := hp
  simp only [List.length_map] at hc1 hsome hv0 ⊢
  have HV := Lib.hid hv0
  have HB := Lib.hid hb
  have HND := Lib.hid hnd
  have HSO := Lib.hid hsome
  obtain ⟨n, hn⟩ : ∃ n, n = p.length := ⟨_, rfl⟩
  rw [← hn] at h3 hc1
  rw [← hn]
  have HN := Lib.hid hn
  clear hv hv0 hb hnd hsome hn
  go_enter Try.func117, Try.ntmps117
  go_wp2
  go_loopw [10] (fun i wr => ∃ k : Nat, k ≤ n ∧ i = .int .i64 k ∧ Same w wr) (fun i _ => n - (intOf i).toNat)
  case atStart => exact ⟨0, Nat.zero_le _, rfl, Keeps.refl _ _⟩
  case round =>
    obtain ⟨k, hk, rfl, hS⟩ := hrel
    by_cases hkn : k < n
    · obtain ⟨x, hx⟩ : ∃ x, p[k]? = some x := ⟨_, List.getElem?_eq_getElem (by rw [← HN.out]; omega)⟩
      obtain ⟨b, o, rfl⟩ := HSO.out (by rw [← HN.out]; omega)
      have hcell : wr.cell? ⟨b, o + k, none⟩ = some (.int .i64 x) := by
        rcases HV.out with ⟨_, h⟩ | ⟨b', o', c', h1, _, _, _, _, h6⟩
        · have := congrArg List.length h; simp at this; rw [this] at hx; simp at hx
        · simp only [Value.slice.injEq, Option.some.injEq, Addr.mk.injEq, and_true] at h1
          obtain ⟨⟨rfl, rfl⟩, _, _⟩ := h1
          exact hS.cell_of trivial (h6 k _ (by rw [List.getElem?_map, hx]; rfl))
      have hxb := HB.out x (List.mem_of_getElem? hx)
      have hrow := row_take HV.out k (by rw [← HN.out]; omega)
      rw [← List.map_take] at hrow
      have hS1 : Same w (wr.alloc (.cells #[.int .i64 x] 3)) := hS.alloc _
      have hcon := contains_int_any 179 #[.pointer (some ⟨wr.heap.size, 0, none⟩)] (enters_of Try.func179 (by kernel_rfl) rfl) ((p.take k).map fun y => ((y.natAbs : Int) == (x.natAbs : Int))) ((p.take k).map (Value.int .i64)) S (wr.alloc (.cells #[.int .i64 x] 3)) _ (hrow.same hS1) (by simp) (by simp; omega) (by
        intro j u bv A hu hbv hA
        simp only [List.getElem?_map, Option.map_eq_some_iff] at hu hbv
        obtain ⟨y, hy, rfl⟩ := hu
        obtain ⟨y', hy', rfl⟩ := hbv
        obtain rfl : y = y' := by rw [hy] at hy'; cases hy'; rfl
        have hyb := HB.out y (List.mem_of_mem_take (List.mem_of_getElem? hy))
        exact bad1_any y x wr.heap.size (by omega) (by omega) A (hA.cell_of trivial (by simp)))
      have hno : (((p.take k).map fun y => ((y.natAbs : Int) == (x.natAbs : Int))).any id) = false := by
        rw [List.any_eq_false]
        intro c hc
        obtain ⟨y, hy, rfl⟩ := List.mem_map.1 hc
        simp only [id, beq_iff_eq]
        intro he
        obtain ⟨j, hj⟩ := List.getElem?_of_mem hy
        rw [List.getElem?_take] at hj
        split at hj
        · rename_i hjk
          obtain ⟨l1, g1⟩ := List.getElem?_eq_some_iff.1 hj
          obtain ⟨l2, g2⟩ := List.getElem?_eq_some_iff.1 hx
          have := (List.pairwise_iff_getElem.1 HND.out) j k (by simpa using l1) (by simpa using l2) hjk
          simp only [List.getElem_map, g1, g2] at this
          exact this (by omega)
        · cases hj
      rw [hno] at hcon
      have hi1 : (k : Int) ≤ (cap : Int) := by omega
      have hx0 : (x == 0) = false := by simp; omega
      have hx1 : -6 ≤ x := by omega
      have hx2 : x ≤ 6 := by omega
      have HCON := Lib.hid hcon
      have HS1 := Lib.hid hS1
      clear hcon hno hrow hxb hx hS1
      go_wp2_with fail
      refine HCON.out.mono ?_
      rintro e w2 ⟨rfl, hS2⟩
      have HS2 := Lib.hid (HS1.out.trans hS2)
      clear hS2
      go_wp2
      go_roundw
      case rel => exact ⟨k + 1, by omega, by go_num, HS2.out⟩
      case measure => simp [intOf]; omega
    · go_wp2
      go_ret2
      exact ⟨rfl, hS⟩

set_option maxRecDepth 100000 in
theorem cnfCheck_any (cls : List (List Int)) (hcl : ∀ p ∈ cls, ClOk 6 3 p) (hlen : cls.length ≤ 400) (S : Nat → Prop) (w : World) (u : Value) (hu : ClsAt S w u cls) :
    Calls Try.prog 68 #[.agg #[.int .i64 6, u]] w fun e w' => e = .returned (.agg #[.int .i64 0, .int .i64 0]) ∧ Same w w' := by
  obtain ⟨vals, h1, h2, h3⟩ := hu
  have HV := Lib.hid h1
  have HVL := Lib.hid h2
  have HVS := Lib.hid h3
  obtain ⟨ao, cap, rfl, hc1, hc2, hsome⟩ := row_len h1
  have HSO := Lib.hid hsome
  have HCL := Lib.hid hcl
  rw [h2]
  rw [h2] at hc1
  obtain ⟨n, hn⟩ : ∃ n, n = cls.length := ⟨_, rfl⟩
  rw [← hn] at hlen hc1
  rw [← hn]
  have HN := Lib.hid hn
  clear h1 h2 h3 hsome hcl hn
  go_enter Try.func68, Try.ntmps68
  go_wp2
  go_loopw [26] (fun i wr => ∃ k : Nat, k ≤ n ∧ i = .int .i64 k ∧ Same w wr ∧ wr.heap[w.heap.size]? = some (.cells #[.int .i64 6, .slice ao n cap] 41) ∧ wr.heap[w.heap.size + 1]? = some (.cells #[.int .i64 0, .int .i64 0] 27)) (fun i _ => n - (intOf i).toNat)
  case atStart =>
    refine ⟨0, Nat.zero_le _, rfl, ((Keeps.refl _ w).alloc _).alloc _, ?_, ?_⟩
    · have h := heap_alloc_new w (.cells #[.int .i64 6, .slice ao n cap] 41)
      exact (((Keeps.refl (fun _ => True) _).alloc _).block _ trivial (by simp)).trans h
    · have h := heap_alloc_new (w.alloc (.cells #[.int .i64 6, .slice ao n cap] 41)) (.cells #[.int .i64 0, .int .i64 0] 27)
      simpa using h
  case round =>
    obtain ⟨k, hk, rfl, hS, hd, hf⟩ := hrel
    obtain ⟨d0, d1, _, _⟩ := cells2 hd
    obtain ⟨f0, f1, z0, z1⟩ := cells2 hf
    by_cases hkn : k < n
    · have hkv : k < vals.length := by rw [HVL.out, ← HN.out]; omega
      obtain ⟨x, hx⟩ : ∃ x, vals[k]? = some x := ⟨_, List.getElem?_eq_getElem hkv⟩
      obtain ⟨p, hp⟩ : ∃ p, cls[k]? = some p := ⟨_, List.getElem?_eq_getElem (by rw [← HN.out]; omega)⟩
      obtain ⟨b, o, rfl⟩ := HSO.out (by omega)
      have hcell : wr.cell? ⟨b, o + k, none⟩ = some x := by
        rcases HV.out with ⟨_, h⟩ | ⟨b', o', c', h1, _, _, _, _, h6⟩
        · rw [h] at hx; simp at hx
        · simp only [Value.slice.injEq, Option.some.injEq, Addr.mk.injEq, and_true] at h1
          obtain ⟨⟨rfl, rfl⟩, _, _⟩ := h1
          exact hS.cell_of trivial (h6 k _ hx)
      have hrow := HVS.out k x p hx hp
      have hpo := HCL.out p (List.mem_of_getElem? hp)
      have hbad := bad_any p hpo S wr x (hrow.same hS)
      obtain ⟨ao', cap', rfl, _, _, _⟩ := row_len hrow
      simp only [List.length_map] at hbad hcell
      have hp3 : p.length ≤ 3 := hpo.1
      obtain ⟨m, hm⟩ : ∃ m, m = p.length := ⟨_, rfl⟩
      rw [← hm] at hbad hcell hp3
      have HBAD := Lib.hid hbad
      have HS := Lib.hid hS
      have HD := Lib.hid hd
      have HF := Lib.hid hf
      clear hbad hrow hpo hx hp hm hS hd hf
      go_wp2_with fail
      refine HBAD.out.mono ?_
      rintro e w2 ⟨rfl, hS2⟩
      have R1 := Lib.hid (HS.out.trans hS2)
      have R2 := Lib.hid ((hS2.block _ trivial (Array.getElem?_eq_some_iff.1 HD.out).1).trans HD.out)
      have R3 := Lib.hid ((hS2.block _ trivial (Array.getElem?_eq_some_iff.1 HF.out).1).trans HF.out)
      clear hS2
      go_wp2
      go_roundw
      case rel => exact ⟨k + 1, by omega, by go_num, R1.out, R2.out, R3.out⟩
      case measure => simp [intOf]; omega
    · have HS := Lib.hid hS
      clear hS hd hf
      go_wp2
      refine bodyPost_ret (v := .agg #[.int .i64 0, .int .i64 0]) (by simp [results, Try.results68, go_sem, f0, f1]) rfl ⟨rfl, ?_⟩
      refine Same.through HS.out (S := fun b => b < w.heap.size) ?_ (fun b hb => hb)
      exact (((Keeps.refl _ _).setCell (p := ⟨w.heap.size + 1, 0, none⟩) (fun k (hk : k < w.heap.size) _ => by show k ≠ w.heap.size + 1; omega) _).setCell (p := ⟨w.heap.size + 1, 1, none⟩) (fun k (hk : k < w.heap.size) _ => by show k ≠ w.heap.size + 1; omega) _)
end Go.Proofs.Ytpokiglgjmcdoaa
