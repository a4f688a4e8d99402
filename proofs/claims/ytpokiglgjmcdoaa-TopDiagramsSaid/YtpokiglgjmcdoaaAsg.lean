/-
  all.Assignment: the assignment of a number.
-/
import Derived.Test.YtpokiglgjmcdoaaFind
import Derived.Lib.RabinKarpLaws
set_option linter.unusedVariables false
set_option linter.unusedSimpArgs false
namespace Go.Proofs.Ytpokiglgjmcdoaa
open Go.ChangeShapes Go.WideShapes Go.ChangeAt Go.RowKit Go.BigFrame Go.Shelf
open Um

theorem info_bool : (Try.prog.info? 4).map (fun i => (i.zero, i.size, i.bytes)) = some (some (.bool false), 1, 1) := by kernel_rfl
/-- the assignment of number k over n variables -/
def asgL (n k : Nat) : List Bool := (List.range n).map fun i => k.testBit (n - 1 - i)

theorem bit_at (k s : Nat) (hk : k < 65536) : (bits BinOp.and IntKind.i64 ((k : Int) / 2 ^ s) 1 == 1) = k.testBit s := by
  have h1 : ((k : Int) / 2 ^ s) = ((k / 2 ^ s : Nat) : Int) := by simp
  have h2 : k / 2 ^ s ≤ k := Nat.div_le_self _ _
  rw [h1, and_one _ (by omega), Nat.testBit_eq_decide_div_mod_eq]
  rcases Nat.mod_two_eq_zero_or_one (k / 2 ^ s) with h | h <;> simp [h]
theorem assignment_any (n k : Nat) (hn : n ≤ 16) (hk : k < 65536) (w : World) :
    Calls Try.prog 119 #[.int .i64 n, .int .i64 k] w fun e w' => ∃ v, e = .returned v ∧ RowAt (fun b => w.heap.size ≤ b) w' v ((asgL n k).map Value.bool) ∧ Same w w' := by
  obtain ⟨i0, hi0, hz0, hz1, hz2⟩ := info_parts info_bool
  go_enter Try.func119, Try.ntmps119
  go_wp2_with (refine wpList_make_full _ rfl _ _ 55 rfl w.heap.size 4 i0 (.bool false) 1 Try.underlying55 hi0 hz0 hz1 .i64 .i64 _ _ n rfl rfl rfl rfl (by rw [hz2]; omega) (by unfold maxLen; omega) (Nat.le_refl _) ?_; intro w1 hown hgrow)
  have hst : (madeCells (Value.bool false).cells (n * 1)).toList = (List.range n).map fun i => Value.bool (if i < 0 then k.testBit (n - 1 - i) else false) := by
    rw [show (Value.bool false).cells = #[Value.bool false] from rfl, Nat.mul_one, toList_madeCells_one]
    apply List.ext_getElem?
    intro j
    by_cases hj : j < n
    · simp [hj]
    · simp [hj]
  rw [hst] at hown
  have hS1 : Same w w1 := grown_keeps hgrow (fun _ h => by cases h)
  have hlt : w.heap.size < w1.heap.size := (hown.lt w.heap.size rfl).2
  clear hst
  go_loopw [11] (fun i wr => ∃ j : Nat, j ≤ n ∧ i = .int .i64 j ∧ wr.ownsRow w.heap.size 4 1 (.slice (some ⟨w.heap.size, 0, none⟩) n n) n ((List.range n).map fun i => Value.bool (if i < j then k.testBit (n - 1 - i) else false)) ∧ Same w wr ∧ w.heap.size < wr.heap.size) (fun i _ => n - (intOf i).toNat)
  case atStart => exact ⟨0, Nat.zero_le _, rfl, hown, hS1, hlt⟩
  case round =>
    clear hown hS1 hlt
    obtain ⟨j, hj, rfl, hown, hS, hlt⟩ := hrel
    by_cases hjn : j < n
    · have hc := hown.cellAt j (by omega)
      rw [List.getElem?_map, List.getElem?_range hjn] at hc
      simp only [Option.map_some] at hc
      have hf := hown.frozenAt j
      have hsh : ((n : Int) - 1 - (j : Int)) = ((n - 1 - j : Nat) : Int) := by omega
      have hbit := bit_at k (n - 1 - j) hk
      have hst := (hown.stored j (.bool (k.testBit (n - 1 - j)))).1
      have hl : ((List.range n).map fun i => Value.bool (if i < j then k.testBit (n - 1 - i) else false)).set j (.bool (k.testBit (n - 1 - j))) = (List.range n).map fun i => Value.bool (if i < j + 1 then k.testBit (n - 1 - i) else false) := by
        apply List.ext_getElem?
        intro i
        rw [List.getElem?_set]
        by_cases hi : i < n
        · by_cases hij : j = i
          · subst hij; simp [hi]
          · rw [if_neg hij, List.getElem?_map, List.getElem?_map, List.getElem?_range hi]
            simp only [Option.map_some]
            by_cases h1 : i < j
            · rw [if_pos h1, if_pos (by omega)]
            · rw [if_neg h1, if_neg (by omega)]
        · simp [hi]; omega
      rw [hl] at hst
      have HST := Lib.hid hst
      have hSe : Same w (wr.setCell ⟨w.heap.size, j, none⟩ (.bool (k.testBit (n - 1 - j)))) := hS.setCell (fun b _ hb => by show b ≠ w.heap.size; omega) _
      clear hst hl
      go_wp2
      first
        | (go_roundw
           case rel => exact ⟨j + 1, by omega, by go_num, HST.out, hSe, by simp; omega⟩
           case measure => simp [intOf]; omega)
        | (refine ⟨⟨j + 1, by omega, by go_num, HST.out, hSe, by simp; omega⟩, by simp [intOf]; omega⟩)
    · go_wp2
      go_ret
      refine ⟨_, rfl, ?_, hS⟩
      have he : ((asgL n k).map Value.bool) = (List.range n).map fun i => Value.bool (if i < j then k.testBit (n - 1 - i) else false) := by
        unfold asgL
        rw [List.map_map]
        apply List.map_congr_left
        intro i hi
        have := List.mem_range.1 hi
        simp only [Function.comp]
        rw [if_pos (by omega)]
      rw [he]
      exact rowAt_of_owns hown
end Go.Proofs.Ytpokiglgjmcdoaa
