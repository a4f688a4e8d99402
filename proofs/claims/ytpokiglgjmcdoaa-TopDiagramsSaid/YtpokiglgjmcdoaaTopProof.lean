/-
  TopDiagrams: for every two lists of numbers the law returns true, and leaves them as they were. No condition.
-/
import Derived.Test.YtpokiglgjmcdoaaRows
import Derived.Test.YtpokiglgjmcdoaaTop
import Derived.Test.YtpokiglgjmcdoaaFrame
import Derived.ChangeSlices
import Derived.JoinedCond
set_option linter.unusedVariables false
set_option linter.unusedSimpArgs false
namespace Go.Proofs.Ytpokiglgjmcdoaa
open Go.ChangeShapes Go.WideShapes Go.ChangeAt Go.RowKit
open Um

theorem topOwn : ownKnob Try.prog.godebug = none := by kernel_rfl
theorem mapsRowed_ok : mapsRowed Try.prog = true := by kernel_rfl
theorem slicesFull : ((List.range Try.prog.types.size).all fun t => match Try.prog.underlying t with | some (.slice e) => decide (0 < Try.prog.cellsOf e) | _ => true) = true := by kernel_rfl

/-- a slice of integers that came in, as the walks read it -/
theorem ints_row {H : Type} {enc : TypeId × Value → H} {W : World} {v : Value} {d : DataW H} {ps : List MemPlace} (hval : ∃ a n c, v = .slice a n c) (h : DataW.Trod enc Try.prog W 0 (fun _ => true) true 33 v d ps) :
    ∃ l : List Int, RowAt (fun _ => True) W v (l.map (Value.int .i64)) ∧ ∀ x ∈ l, I64 x := by
  obtain ⟨a0, n0, c0, rfl⟩ := hval
  obtain ⟨fuel, hf⟩ := h
  rcases open_ints Try.underlying33 Try.underlying3 int_cells hf with ⟨hcs, hx⟩ | ⟨a, len, cap, zs, hcs, _, hl, hm, hz, hx, hcell, hwz⟩
  · simp [Value.cells] at hcs
    obtain ⟨rfl, rfl, rfl⟩ := hcs
    exact ⟨[], .inl ⟨⟨none, 0, rfl, by decide⟩, rfl⟩, by simp⟩
  · simp [Value.cells] at hcs
    obtain ⟨rfl, rfl, rfl⟩ := hcs
    simp only [if_true] at hz
    unfold maxLen at hm
    refine ⟨zs.take n0, ?_, ?_⟩
    · by_cases h0 : n0 = 0
      · subst h0
        exact .inl ⟨⟨_, c0, rfl, by omega⟩, by simp⟩
      · have hp := hcell 0 (by omega)
        obtain ⟨b, o, rfl⟩ : ∃ b o, a = ⟨b, o, none⟩ := by
          obtain ⟨b, o, sp⟩ := a
          cases sp with
          | none => exact ⟨b, o, rfl⟩
          | some x =>
            have : (⟨b, o, some x⟩ : Addr).add 0 = ⟨b, o, some x⟩ := by simp [Addr.add]
            rw [this] at hp
            simp [World.cell?] at hp
            split at hp <;> simp at hp
        have hadd : ∀ i, (⟨b, o, none⟩ : Addr).add i = ⟨b, o + i, none⟩ := by intro i; unfold Addr.add; split <;> simp_all
        refine .inr ⟨b, o, c0, ?_, ?_, by omega, trivial, ?_, ?_⟩
        · simp; omega
        · simp; omega
        · have := World.block_lt_of_cell? W _ hp
          rw [hadd] at this
          exact this
        · intro j u hj
          rw [List.getElem?_map] at hj
          simp only [Option.map_eq_some_iff] at hj
          obtain ⟨x, hx, rfl⟩ := hj
          rw [List.getElem?_take] at hx
          split at hx
          · rename_i hjn
            have := hcell j (by omega)
            rw [hadd] at this
            rw [this, List.getD_eq_getElem?_getD, hx]; rfl
          · cases hx
    · intro x hx
      have := hwz x (List.mem_of_mem_take hx)
      unfold I64
      simp [Lit.wf, IntKind.min, IntKind.max, IntKind.signed, IntKind.bits] at this
      omega

set_option maxRecDepth 100000 in
theorem topLifted (os : Os) (started : os.Started) (H : Type) (enc : TypeId × Value → H) :
    ReturnsInHanded {} Try.checked os 5 .any (Rows.topDiagramsSpec.pre6 enc Try.prog Try.f5 Rows.topDiagramsRow.domain false) (Rows.topDiagramsSpec.post enc Try.prog Try.f5 false true false false) := by
  refine returnsInHanded_of_change (C := Try.checked) topOwn started (by kernel_rfl) Try.func5
    (ChangeSpec.witness6 (enc := enc) (C := Try.checked) false ⟨#[], #[.slice none 0 0, .slice none 0 0], []⟩ 8 (by kernel_rfl) (by kernel_rfl) (by kernel_rfl) (by kernel_rfl)) ?_
  intro W base args ds gs before hval0 hW _ _
  have hval : ∀ (j : Nat) t v, Try.f5.params[j]? = some t → args[j]? = some v → Value.okWide Try.prog W .any base t v := hval0
  have hW' := hW
  obtain ⟨p, q, hA0, hV, rfl, hfz, hnd⟩ := hW
  have hA : DataW.TrodAll enc Try.prog W 0 (fun _ => true) true Try.f5.params.toList args.toList ds p := hA0
  rw [Try.params5] at hA hval
  obtain ⟨v0, vs0, d0, ds0, p0, q0, hargs, rfl, rfl, h0, r0⟩ := trodAll_cons hA
  obtain ⟨v1, vs1, d1, ds1, p1, q1, rfl, rfl, rfl, h1, r1⟩ := trodAll_cons r0
  obtain ⟨rfl, rfl, rfl⟩ := trodAll_nil r1
  obtain rfl : args = #[v0, v1] := by cases args; simp_all
  obtain ⟨rfl, rfl⟩ := trodVars_none hV
  obtain ⟨l0, hr0, hi0⟩ := ints_row (okWide_slice Try.underlying33 (hval 0 _ v0 rfl rfl)) h0
  obtain ⟨l1, hr1, hi1⟩ := ints_row (okWide_slice Try.underlying33 (hval 1 _ v1 rfl rfl)) h1
  refine (top_any W v0 v1 l0 l1 hr0 hr1 hi0 hi1).mono fun e W' ⟨he, hS⟩ => ?_
  subst he
  exact ⟨_, rfl, post_law laidOut mapsRowed_ok slicesFull Try.underlying4 (by kernel_rfl) hW' rfl (by kernel_rfl) rfl rfl rfl hS.below⟩

theorem topDiagrams_holds : Rows.TopDiagramsSaid :=
  OpenClaim.holds_of_wide 5 Try.f5 rfl rfl rfl rfl rfl rfl rfl ⟨rfl, rfl, rfl, rfl, rfl⟩ rfl rfl rfl rfl rfl (by kernel_rfl) Try.func5 (by kernel_rfl)
    (of_decide_eq_true (by kernel_rfl)) (by unfold Func.isWrapper; first | (rw [if_pos (by decide +kernel)]; kernel_rfl) | (rw [if_neg (by decide +kernel)]; exact ⟨rfl, rfl⟩))
    (fun os started H enc _ => topLifted os started H enc)
end Go.Proofs.Ytpokiglgjmcdoaa
