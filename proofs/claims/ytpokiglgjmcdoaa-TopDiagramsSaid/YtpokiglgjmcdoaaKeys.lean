/-
  The two maps of dia.builder: their keys.
-/
import Derived.Test.YtpokiglgjmcdoaaComb
import Derived.Test.YtpokiglgjmcdoaaMapOf
import Derived.DeepKeys5
set_option linter.unusedVariables false
set_option linter.unusedSimpArgs false
namespace Go.Proofs.Ytpokiglgjmcdoaa
open Go.ChangeShapes Go.WideShapes Go.ChangeAt Go.RowKit Go.BigFrame Go.Shelf Go.Maps
open Um

/-- a choice as a key -/
def chKey (c : Dia.Ch) : Value := .agg #[.int .i64 (c.v : Int), .int .i64 (c.lo : Int), .int .i64 (c.hi : Int)]
def chOk (c : Dia.Ch) : Prop := c.v ≤ 4294967296 ∧ c.lo ≤ 4294967296 ∧ c.hi ≤ 4294967296
def tabKey (t : List Nat) : Value := .string (tabStr t)
def tabOk (t : List Nat) : Prop := t.length ≤ 4294967296 ∧ ∀ x ∈ t, x < 2
def natVal (n : Nat) : Value := .int .i64 (n : Int)

theorem laidOut : laidOutB Try.prog = true := by kernel_rfl
theorem ch_wide : (match Try.prog.underlying 136 with | some (.array _ _) | some (.struct _) => true | _ => false) = true := by kernel_rfl
theorem ch_row : (136 : TypeId) < Try.prog.types.size := of_decide_eq_true (by kernel_rfl)
theorem ch_cells : Try.prog.cellsOf 136 = 3 := by kernel_rfl
theorem int_cells : Try.prog.cellsOf 3 = 1 := by kernel_rfl
set_option maxRecDepth 100000 in
theorem ch_law : Keyed Try.prog 136 := Keyed.of_law (deep_law_laid laidOut (m := 3) (by omega) ch_row (by kernel_rfl) ch_wide)
theorem ch_key (c : Dia.Ch) (h : chOk c) : ∃ l, keyOf Try.prog 136 (chKey c) = some l := by
  unfold chOk at h
  have w1 : (Lit.int .i64 (c.v : Int)).wf = true := WalkArith.wf_i64 (by omega)
  have w2 : (Lit.int .i64 (c.lo : Int)).wf = true := WalkArith.wf_i64 (by omega)
  have w3 : (Lit.int .i64 (c.hi : Int)).wf = true := WalkArith.wf_i64 (by omega)
  have hk : Try.prog.keyType 136 = true := by kernel_rfl
  have hf : (chKey c).formed Try.prog 136 = true := by
    simp [chKey, Value.formed, Try.underlying136, ch_cells]
  obtain ⟨n, hn⟩ : ∃ n, Try.prog.types.size + 1 = n + 2 := ⟨Try.prog.types.size - 1, by have : 0 < Try.prog.types.size := of_decide_eq_true (by kernel_rfl); omega⟩
  unfold keyOf
  rw [Try.underlying136]
  simp only [hk, hf, Bool.and_self, if_true]
  rw [hn]
  simp [chKey, Value.cells, Program.keyLits, Try.underlying136, Try.underlying3, ch_cells, int_cells, w1, w2, w3]
theorem ch_keyv : KeyV Try.prog 136 chKey chOk := by
  refine ⟨ch_law, ch_key, fun x y _ _ h => ?_⟩
  unfold chKey at h
  simp only [Value.agg.injEq, Array.mk.injEq, List.cons.injEq, Value.int.injEq, true_and, and_true] at h
  obtain ⟨h1, h2, h3⟩ := h
  cases x; cases y
  simp only at h1 h2 h3
  congr 1 <;> omega
theorem tab_keyv : KeyV Try.prog 9 tabKey tabOk := by
  refine ⟨string_keyed Try.underlying9, fun t h => ⟨_, Go.WideMaps.keyOf_string_mk Try.underlying9 (by rw [tabStr_size]; unfold maxLen; have := h.1; omega)⟩, fun x y hx hy h => ?_⟩
  unfold tabKey at h
  injection h with h
  exact tabStr_inj hx.2 hy.2 h
end Go.Proofs.Ytpokiglgjmcdoaa
