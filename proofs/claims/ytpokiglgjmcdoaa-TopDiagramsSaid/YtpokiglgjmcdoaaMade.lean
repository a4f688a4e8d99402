/-
  dia.Made: the table of a function.
-/
import Derived.Test.YtpokiglgjmcdoaaAsg
set_option linter.unusedVariables false
set_option linter.unusedSimpArgs false
namespace Go.Proofs.Ytpokiglgjmcdoaa
open Go.ChangeShapes Go.WideShapes Go.ChangeAt Go.RowKit Go.BigFrame Go.Shelf
open Um

theorem info_u8 : (Try.prog.info? 5).map (fun i => (i.zero, i.size, i.bytes)) = some (some (.int .u8 0), 1, 1) := by kernel_rfl
/-- the table of a test of assignments -/
def tableL (n : Nat) (f : List Bool → Bool) : List Nat := (List.range (2 ^ n)).map fun k => if f (asgL n k) then 1 else 0

set_option maxRecDepth 100000 in
theorem made_any (g : Nat) (cap : Array Value) (hg : Enters Try.prog g) (f : List Bool → Bool) (w : World)
    (hp : ∀ (a : List Bool) (v : Value) (A : World), a.length = 6 → RowAt (fun b => w.heap.size < b) A v (a.map Value.bool) → Same w A → Calls Try.prog g (#[v] ++ cap) A fun e w' => e = .returned (.bool (f a)) ∧ Same A w') :
    Calls Try.prog 70 #[.int .i64 6, .func (.func g) #[] cap] w fun e w' => ∃ v, e = .returned v ∧ w'.ownsRow w.heap.size 5 1 v 64 ((tableL 6 f).map fun x : Nat => Value.int .u8 (x : Int)) ∧ Same w w' := by
  obtain ⟨i0, hi0, hz0, hz1, hz2⟩ := info_parts info_u8
  have hent : ∀ (x : Value) (W : World), (callFunc g (#[x] ++ cap)).run Try.prog W = .ok (.enter g (#[x] ++ cap)) W := fun x W => hg _ W
  have ha := fun k (hk : k < 65536) W => assignment_any 6 k (by omega) hk W
  go_enter Try.func70, Try.ntmps70
  go_wp2_with (refine wpList_make_full _ rfl _ _ 129 rfl w.heap.size 5 i0 (.int .u8 0) 1 Try.underlying129 hi0 hz0 hz1 .i64 .i64 _ _ 64 rfl rfl rfl rfl (by rw [hz2]; omega) (by unfold maxLen; omega) (Nat.le_refl _) ?_; intro w1 hown hgrow)
  have hst : (madeCells (Value.int .u8 0).cells (64 * 1)).toList = (List.range 64).map fun i => Value.int .u8 ((if i < 0 ∧ f (asgL 6 i) = true then (1 : Nat) else 0 : Nat) : Int) := by
    rw [show (Value.int .u8 0).cells = #[Value.int .u8 0] from rfl, Nat.mul_one, toList_madeCells_one]
    apply List.ext_getElem?
    intro j
    by_cases hj : j < 64
    · rw [List.getElem?_replicate, if_pos hj, List.getElem?_map, List.getElem?_range hj]; simp
    · rw [List.getElem?_replicate, if_neg hj, List.getElem?_eq_none (by simp; omega)]
  rw [hst] at hown
  have hS1 : Same w w1 := grown_keeps hgrow (fun _ h => by cases h)
  have hlt : w.heap.size < w1.heap.size := (hown.lt w.heap.size rfl).2
  have HP := Lib.hid hp
  clear hst hp
  go_loopw [12] (fun i wr => ∃ j : Nat, j ≤ 64 ∧ i = .int .i64 j ∧ wr.ownsRow w.heap.size 5 1 (.slice (some ⟨w.heap.size, 0, none⟩) 64 64) 64 ((List.range 64).map fun i => Value.int .u8 ((if i < j ∧ f (asgL 6 i) = true then (1 : Nat) else 0 : Nat) : Int)) ∧ Same w wr ∧ w.heap.size < wr.heap.size) (fun i _ => 64 - (intOf i).toNat)
  case atStart => exact ⟨0, Nat.zero_le _, rfl, hown, hS1, hlt⟩
  case round =>
    clear hown hS1 hlt
    obtain ⟨j, hj, rfl, hown, hS, hlt⟩ := hrel
    by_cases hjn : j < 64
    · go_wp2_with fail
      refine (ha j (by omega) _).mono ?_
      rintro e w2 ⟨v, rfl, hv, hS2⟩
      have hown2 := hown.kept (same_grown hS2) own_ne
      have hlt2 := hS2.size
      have hc := HP.out (asgL 6 j) v w2 (by simp [asgL]) (hv.mono (fun b hb _ => Nat.lt_of_lt_of_le hlt hb)) (hS.trans hS2)
      clear hv
      go_wp2_with fail
      refine hc.mono ?_
      rintro e w3 ⟨rfl, hS3⟩
      have hown3 := hown2.kept (same_grown hS3) own_ne
      have hlt3 := hS3.size
      have hSe := (hS.trans hS2).trans hS3
      have hlt4 : w.heap.size < w3.heap.size := by omega
      have hcell := hown3.cellAt j (by omega)
      rw [List.getElem?_map, List.getElem?_range hjn] at hcell
      simp only [Option.map_some] at hcell
      have hf := hown3.frozenAt j
      clear hc hown hown2 hS hS2 hS3 hlt2 hlt3
      cases hb : f (asgL 6 j)
      · have hl : ((List.range 64).map fun i => Value.int .u8 ((if i < j ∧ f (asgL 6 i) = true then (1 : Nat) else 0 : Nat) : Int)) = (List.range 64).map fun i => Value.int .u8 ((if i < j + 1 ∧ f (asgL 6 i) = true then (1 : Nat) else 0 : Nat) : Int) := by
          apply List.map_congr_left
          intro i hi
          by_cases hij : i = j
          · subst hij; simp [hb]
          · have : i < j ↔ i < j + 1 := by omega
            simp [this]
        rw [hl] at hown3
        have HST := Lib.hid hown3
        clear hown3 hl hb
        go_wp2
        go_roundw
        case rel => exact ⟨j + 1, by omega, by go_num, HST.out, hSe, hlt4⟩
        case measure => simp [intOf]; omega
      · have hst := (hown3.stored j (.int .u8 1)).1
        have hl : ((List.range 64).map fun i => Value.int .u8 ((if i < j ∧ f (asgL 6 i) = true then (1 : Nat) else 0 : Nat) : Int)).set j (.int .u8 1) = (List.range 64).map fun i => Value.int .u8 ((if i < j + 1 ∧ f (asgL 6 i) = true then (1 : Nat) else 0 : Nat) : Int) := by
          apply List.ext_getElem?
          intro i
          rw [List.getElem?_set]
          by_cases hi : i < 64
          · by_cases hij : j = i
            · subst hij; simp [hi, hb]
            · rw [if_neg hij, List.getElem?_map, List.getElem?_map, List.getElem?_range hi]
              have : i < j ↔ i < j + 1 := by omega
              simp [this]
          · simp [hi]; omega
        rw [hl] at hst
        have HST := Lib.hid hst
        have hSf : Same w (w3.setCell ⟨w.heap.size, j, none⟩ (.int .u8 1)) := hSe.setCell (fun b _ hb => by show b ≠ w.heap.size; omega) _
        clear hst hl hown3 hb
        go_wp2
        go_roundw
        case rel => exact ⟨j + 1, by omega, by go_num, HST.out, hSf, by simp; omega⟩
        case measure => simp [intOf]; omega
    · go_wp2
      go_ret
      refine ⟨_, rfl, ?_, hS⟩
      have he : ((tableL 6 f).map fun x : Nat => Value.int .u8 (x : Int)) = (List.range 64).map fun i => Value.int .u8 ((if i < j ∧ f (asgL 6 i) = true then (1 : Nat) else 0 : Nat) : Int) := by
        unfold tableL
        rw [List.map_map]
        apply List.map_congr_left
        intro i hi
        have := List.mem_range.1 hi
        simp only [Function.comp]
        have h2 : i < j := by omega
        simp [h2]
      rw [he]
      exact hown
end Go.Proofs.Ytpokiglgjmcdoaa
