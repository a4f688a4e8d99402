/-
  dia.Of.
-/
import Derived.Test.YtpokiglgjmcdoaaBad
set_option linter.unusedVariables false
set_option linter.unusedSimpArgs false
namespace Go.Proofs.Ytpokiglgjmcdoaa
open Go.ChangeShapes Go.WideShapes Go.ChangeAt Go.RowKit Go.BigFrame Go.Shelf Go.Maps
open Um

theorem ClsAt.mono {S T : Nat → Prop} {w : World} {v : Value} {cls : List (List Int)} (h : ClsAt S w v cls) (hs : ∀ b, S b → T b) : ClsAt T w v cls := by
  obtain ⟨vals, h1, h2, h3⟩ := h
  exact ⟨vals, h1.mono fun b hb _ => hs b hb, h2, fun j u p hj hp => (h3 j u p hj hp).mono fun b hb _ => hs b hb⟩
theorem fits_of_ok {p : List Int} (h : ClOk 6 3 p) : fits 6 p := by
  obtain ⟨h1, h2, _⟩ := h
  exact ⟨by omega, fun l hl => by have := h2 l hl; omega⟩
theorem tableL_eq (f : List Bool → Bool) : tableL 6 f = Dia.tableL 6 f := rfl
/-- the diagram of clauses -/
def ofL (cls : List (List Int)) : List Dia.Ch × Nat := Dia.built 6 (Dia.tableL 6 fun a => allL a cls)

set_option maxRecDepth 100000 in
theorem of1_any (cls : List (List Int)) (hcl : ∀ p ∈ cls, ClOk 6 3 p) (hlen : cls.length ≤ 400) (a : List Bool) (ha : a.length = 6) (A : World) (v u : Value) (cb : Nat) (hv : RowAt (fun _ => True) A v (a.map Value.bool)) (hu : ClsAt (fun _ => True) A u cls) (hc : A.cell? ⟨cb, 1, none⟩ = some u) :
    Calls Try.prog 71 #[v, .pointer (some ⟨cb, 0, none⟩)] A fun e w' => e = .returned (.bool (allL a cls)) ∧ Same A w' := by
  have h := all_any a cls (fun _ => True) A v u hv hu (fun p hp => by rw [ha]; exact fits_of_ok (hcl p hp)) (by omega) (by omega)
  clear hv hu hcl hlen ha
  go_enter Try.func71, Try.ntmps71
  go_wp2_with fail
  refine h.mono ?_
  rintro e w1 ⟨rfl, hS1⟩
  go_wp2
  go_ret
  exact ⟨rfl, hS1⟩

set_option maxHeartbeats 1600000 in
set_option maxRecDepth 100000 in
theorem of_any (cls : List (List Int)) (hcl : ∀ p ∈ cls, ClOk 6 3 p) (hlen : cls.length ≤ 400) (w : World) (u : Value) (hu : ClsAt (fun _ => True) w u cls) :
    Calls Try.prog 24 #[.agg #[.int .i64 6, u]] w fun e w' => ∃ v, e = .returned (.tuple #[.agg #[v, .int .i64 ((ofL cls).2 : Int)], .agg #[.int .i64 0, .int .i64 0]]) ∧ ChsAt (fun b => w.heap.size ≤ b) w' v (ofL cls).1 ∧ Same w w' := by
  have HC := Lib.hid fun W (hW : Same w W) => cnfCheck_any cls hcl hlen (fun _ => True) W u (hu.same hW)
  have HM := Lib.hid fun W (hW : Same w W) (hc : W.cell? ⟨w.heap.size, 1, none⟩ = some u) => made_any 71 #[.pointer (some ⟨w.heap.size, 0, none⟩)] (enters_of Try.func71 (by kernel_rfl) rfl) (fun a => allL a cls) W
    (fun a v A ha hv hA => of1_any cls hcl hlen a ha A v u w.heap.size (hv.mono fun _ _ _ => trivial) (hu.same (hW.trans hA)) (hA.cell_of trivial hc))
  have htl := Dia.tableL_length 6 fun a => allL a cls
  have htx := Dia.tableL_bits 6 fun a => allL a cls
  have hd : ofL cls = Dia.built 6 (Dia.tableL 6 fun a => allL a cls) := rfl
  rw [hd]
  rw [tableL_eq] at HM
  generalize Dia.tableL 6 (fun a => allL a cls) = t at *
  have HB := Lib.hid fun W tv hrow => built_any W tv t htl htx hrow
  generalize Dia.built 6 t = d' at *
  have hst := ((((Boxes.nil w).alloc (.cells #[.int .i64 6, u] 41)).alloc (.cells #[.slice none 0 0, .int .i64 0] 45)).alloc (.cells #[.int .i64 0, .int .i64 0] 27))
  simp only [World.size_alloc] at hst
  have HST := Lib.hid hst
  clear hst htl htx hd hcl hlen
  obtain ⟨vals, hrow, hvl, _⟩ := hu
  obtain ⟨uo, ucap, rfl, _, _, _⟩ := row_len hrow
  clear hrow hvl
  go_enter Try.func24, Try.ntmps24
  go_wp2_with fail
  refine (HC.out _ HST.out.1).mono ?_
  rintro e w1 ⟨rfl, hS1⟩
  have hB1 := HST.out.after hS1
  obtain ⟨a0, a1, _, _⟩ := cells2 (hB1.at (i := w.heap.size) (o := .cells #[.int .i64 6, .slice uo vals.length ucap] 41) (by simp))
  have hl1 : w.heap.size < w1.heap.size := World.block_lt_of_cell? w1 ⟨w.heap.size, 0, none⟩ a0
  have HB1 := Lib.hid hB1
  clear hS1 hB1
  go_wp2_with fail
  have hBW := HB1.out.after ((Keeps.refl _ w1).alloc (.cells #[.int .i64 0, .int .i64 0] 27))
  obtain ⟨_, a1', _, _⟩ := cells2 (hBW.at (i := w.heap.size) (o := .cells #[.int .i64 6, .slice uo vals.length ucap] 41) (by simp))
  refine (HM.out _ hBW.1 a1').mono ?_
  rintro e w2 ⟨tv, rfl, hown, hS2⟩
  have hB2 := hBW.after hS2
  have R := Lib.hid ((rowAt_of_owns hown).mono (T := fun _ => True) (fun _ _ _ => trivial))
  have HB2 := Lib.hid hB2
  clear hown hB2 hBW hS2 a0 a1 a1'
  go_wp2_with fail
  refine (HB.out _ _ R.out).mono ?_
  rintro e w3 ⟨v, rfl, ⟨ao, cap', rfl, hat⟩, hS3⟩
  have hB3 := HB2.out.after hS3
  obtain ⟨p1, p2, p3, p4⟩ := cells2 (hB3.at (i := w.heap.size + 1) (o := .cells #[.slice none 0 0, .int .i64 0] 45) (by simp))
  obtain ⟨q1, q2, q3, q4⟩ := cells2 (hB3.at (i := w.heap.size + 1 + 1) (o := .cells #[.int .i64 0, .int .i64 0] 27) (by simp))
  have hs3 : w.heap.size + 1 + 1 < w2.heap.size := (Array.getElem?_eq_some_iff.1 (HB2.out.at (i := w.heap.size + 1 + 1) (o := .cells #[.int .i64 0, .int .i64 0] 27) (by simp))).1
  have HAT := Lib.hid hat
  have HB3 := Lib.hid hB3
  clear hat hB3 hS3
  go_wp2
  have hS4 : Same w w3 := HB3.out.1
  refine bodyPost_ret (v := .tuple #[.agg #[.slice ao d'.1.length cap', .int .i64 (d'.2 : Int)], .agg #[.int .i64 0, .int .i64 0]]) (by simp [results, Try.results24, go_sem, p1, p2, q1, q2]) rfl ⟨_, rfl, ?_, ?_⟩
  · have h : ChsAt (fun b => w2.heap.size ≤ b) w3 (.slice ao d'.1.length cap') d'.1 := ⟨ao, cap', rfl, HAT.out⟩
    refine (h.keeps (T := fun b => w.heap.size + 1 + 1 < b) ?_ fun b hb => by omega).mono fun b hb => by omega
    exact keeps_two (S := fun b => w.heap.size + 1 + 1 < b) w3 _ _ _ _ _ _ (fun k (hk : w.heap.size + 1 + 1 < k) => by omega) (fun k (hk : w.heap.size + 1 + 1 < k) => by omega)
  · refine Same.through hS4 (S := fun b => b < w.heap.size) ?_ (fun b hb => hb)
    exact keeps_two (S := fun b => b < w.heap.size) w3 _ _ _ _ _ _ (fun k (hk : k < w.heap.size) => by omega) (fun k (hk : k < w.heap.size) => by omega)
end Go.Proofs.Ytpokiglgjmcdoaa
