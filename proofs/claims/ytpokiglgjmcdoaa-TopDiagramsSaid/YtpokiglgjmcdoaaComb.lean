/-
  dia.Combined at 'and'.
-/
import Derived.Test.YtpokiglgjmcdoaaTab
import Derived.Test.YtpokiglgjmcdoaaDiaLaw
import Derived.StillTailTactics
import Derived.Deep.AppendLies
set_option linter.unusedVariables false
set_option linter.unusedSimpArgs false
namespace Go.Proofs.Ytpokiglgjmcdoaa
open Go.ChangeShapes Go.WideShapes Go.ChangeAt Go.RowKit Go.BigFrame Go.Shelf
open Um

/-- a table that is worked on: f of the number below k, else the old table -/
def stage (t : List Nat) (f : Nat → Nat) (k : Nat) : List Nat := (List.range 64).map fun i => if i < k then f i else t.getD i 0
theorem stage_zero {t : List Nat} (ht : t.length = 64) (f : Nat → Nat) : stage t f 0 = t := by
  apply List.ext_getElem?
  intro i
  unfold stage
  by_cases hi : i < 64
  · rw [List.getElem?_map, List.getElem?_range hi]; simp [List.getD_eq_getElem?_getD, List.getElem?_eq_getElem (show i < t.length by omega)]
  · rw [List.getElem?_eq_none (by simp; omega), List.getElem?_eq_none (by omega)]
theorem stage_set {t : List Nat} (f : Nat → Nat) {k : Nat} (hk : k < 64) : (u8s (stage t f k)).set k (.int .u8 (f k : Int)) = u8s (stage t f (k + 1)) := by
  apply List.ext_getElem?
  intro i
  unfold stage u8s
  rw [List.getElem?_set]
  by_cases hi : i < 64
  · by_cases hij : k = i
    · subst hij; simp [hi]
    · rw [if_neg hij]
      simp only [List.getElem?_map, List.getElem?_range hi, Option.map_some]
      by_cases h1 : i < k
      · rw [if_pos h1, if_pos (by omega)]
      · rw [if_neg h1, if_neg (by omega)]
  · simp [hi]; omega
theorem stage_get {t : List Nat} (f : Nat → Nat) {k j : Nat} (hj : j < 64) : (u8s (stage t f k))[j]? = some (.int .u8 ((if j < k then f j else t.getD j 0 : Nat) : Int)) := by
  unfold stage u8s
  simp only [List.getElem?_map, List.getElem?_range hj, Option.map_some]
theorem stage_full (t : List Nat) (f : Nat → Nat) : stage t f 64 = (List.range 64).map f := by
  unfold stage
  apply List.map_congr_left
  intro i hi
  rw [if_pos (List.mem_range.1 hi)]
def andAt (t u : List Nat) (i : Nat) : Nat := if t.getD i 0 = 1 ∧ u.getD i 0 = 1 then 1 else 0
theorem andL_at {t u : List Nat} (ht : t.length = 64) (hu : u.length = 64) : Dia.andL t u = (List.range 64).map (andAt t u) := by
  apply List.ext_getElem?
  intro i
  unfold Dia.andL andAt
  rw [List.getElem?_zipWith, List.getElem?_map]
  by_cases hi : i < 64
  · rw [List.getElem?_range hi, List.getElem?_eq_getElem (show i < t.length by omega), List.getElem?_eq_getElem (show i < u.length by omega)]
    simp [List.getD_eq_getElem?_getD, List.getElem?_eq_getElem (show i < t.length by omega), List.getElem?_eq_getElem (show i < u.length by omega)]
  · rw [List.getElem?_eq_none (show t.length ≤ i by omega), List.getElem?_eq_none (show (List.range 64).length ≤ i by rw [List.length_range]; omega)]; rfl

theorem u8_row {S : Nat → Prop} {w : World} {v : Value} {t : List Nat} (h : RowAt S w v (u8s t)) (ht : t.length = 64) :
    ∃ b o cap, v = .slice (some ⟨b, o, none⟩) 64 cap ∧ S b ∧ b < w.heap.size ∧ ∀ j, j < 64 → w.cell? ⟨b, o + j, none⟩ = some (.int .u8 ((t.getD j 0 : Nat) : Int)) := by
  have hl : (u8s t).length = 64 := by simp [u8s, ht]
  rcases h with ⟨_, h⟩ | ⟨b, o, cap, h1, h2, h3, h4, h5, h6⟩
  · rw [h] at hl; cases hl
  · rw [hl] at h1
    refine ⟨b, o, cap, h1, h4, h5, fun j hj => h6 j _ ?_⟩
    unfold u8s
    rw [List.getElem?_map, List.getElem?_eq_getElem (show j < t.length by omega)]
    simp [List.getD_eq_getElem?_getD, List.getElem?_eq_getElem (show j < t.length by omega)]

set_option maxRecDepth 100000 in
theorem combined_any (S : Nat → Prop) (w : World) (va vb : Value) (t u : List Nat) (ha : RowAt S w va (u8s t)) (hb : RowAt S w vb (u8s u)) (ht : t.length = 64) (hu : u.length = 64) (tx : ∀ x ∈ t, x < 2) (ux : ∀ x ∈ u, x < 2) :
    Calls Try.prog 74 #[.int .i64 8, va, vb] w fun e w' => ∃ v, e = .returned v ∧ w'.ownsRow w.heap.size 5 1 v 64 (u8s (Dia.andL t u)) ∧ Same w w' := by
  have hclone := clone_tab S w va t ha ht
  obtain ⟨b1, o1, c1, rfl, _, hlt1, A1⟩ := u8_row ha ht
  obtain ⟨b2, o2, c2, rfl, _, hlt2, A2⟩ := u8_row hb hu
  have TX : ∀ j, t.getD j 0 < 2 := fun j => by
    rw [List.getD_eq_getElem?_getD]
    cases h : t[j]? with
    | none => simp
    | some x => exact tx x (List.mem_of_getElem? h)
  have UX : ∀ j, u.getD j 0 < 2 := fun j => by
    rw [List.getD_eq_getElem?_getD]
    cases h : u[j]? with
    | none => simp
    | some x => exact ux x (List.mem_of_getElem? h)
  have HL := Lib.hid (andL_at ht hu)
  have HT := Lib.hid ht
  have H1 := Lib.hid A1
  have H2 := Lib.hid A2
  have HTX := Lib.hid TX
  have HUX := Lib.hid UX
  clear A1 A2 ha hb ht hu tx ux TX UX
  go_enter Try.func74, Try.ntmps74
  go_wp2_with fail
  refine hclone.mono ?_
  rintro e w1 ⟨v, rfl, hown, hS1⟩
  clear hclone
  obtain ⟨g, cap, rfl, hg0, hg1⟩ := hown.form (by omega)
  rw [← stage_zero HT.out (andAt t u)] at hown
  go_wp2
  go_loopw [13] (fun i wr => ∃ k : Nat, k ≤ 64 ∧ i = .int .i64 k ∧ wr.ownsRow w.heap.size 5 1 (.slice (some ⟨g, 0, none⟩) 64 cap) 64 (u8s (stage t (andAt t u) k)) ∧ Same w wr ∧ g < wr.heap.size) (fun i _ => 64 - (intOf i).toNat)
  case atStart => exact ⟨0, Nat.zero_le _, rfl, hown, hS1, hg1⟩
  case round =>
    clear hown hS1 hg1
    obtain ⟨k, hk, rfl, hown, hS, hg1⟩ := hrel
    by_cases hkn : k < 64
    · have x1 := hS.cell_of trivial (H1.out k hkn)
      have x2 := hS.cell_of trivial (H2.out k hkn)
      have hcell := hown.cellAt k (by omega)
      have hf := hown.frozenAt k
      rw [stage_get _ hkn, if_neg (by omega)] at hcell
      have hst := (hown.stored k (.int .u8 (andAt t u k : Int))).1
      rw [stage_set _ hkn] at hst
      have HST := Lib.hid hst
      have hSe : Same w (wr.setCell ⟨g, k, none⟩ (.int .u8 (andAt t u k : Int))) := hS.setCell (fun b _ hb => by show b ≠ g; omega) _
      have hto := HTX.out k
      have huo := HUX.out k
      have HA : Hid (andAt t u k = if t.getD k 0 = 1 ∧ u.getD k 0 = 1 then 1 else 0) := Lib.hid rfl
      generalize hx : t.getD k 0 = x at *
      generalize hy : u.getD k 0 = y at *
      generalize hz : andAt t u k = z at *
      clear hown hst hx hy hz
      have hi0 : (0 : Int) ≤ (k : Int) := by omega
      have hi1 : (k : Int) < 64 := by omega
      have b0 : bits BinOp.and IntKind.i64 8 1 = 0 := by decide
      have b1 : bits BinOp.and IntKind.i64 4 1 = 0 := by decide
      have b2 : bits BinOp.and IntKind.i64 2 1 = 0 := by decide
      have b3 : bits BinOp.and IntKind.i64 1 1 = 1 := by decide
      obtain rfl | rfl : x = 0 ∨ x = 1 := by omega
      · obtain rfl : z = 0 := by rw [HA.out]; simp
        clear HA
        obtain rfl | rfl : y = 0 ∨ y = 1 := by omega
        · go_wp2
          go_still_tail 17, (by kernel_rfl)
          change wpList _ _ _ _ _ wr.drew
          go_wp2
          go_roundw
          case rel => exact ⟨k + 1, by omega, by go_num, HST.out.drew, hSe.drew, by simp; omega⟩
          case measure => simp [intOf]; omega
        · go_wp2
          go_still_tail 17, (by kernel_rfl)
          change wpList _ _ _ _ _ wr.drew
          go_wp2
          go_roundw
          case rel => exact ⟨k + 1, by omega, by go_num, HST.out.drew, hSe.drew, by simp; omega⟩
          case measure => simp [intOf]; omega
      · obtain rfl | rfl : y = 0 ∨ y = 1 := by omega
        · obtain rfl : z = 0 := by rw [HA.out]; simp
          clear HA
          go_wp2
          go_still_tail 17, (by kernel_rfl)
          change wpList _ _ _ _ _ wr.drew
          go_wp2
          go_roundw
          case rel => exact ⟨k + 1, by omega, by go_num, HST.out.drew, hSe.drew, by simp; omega⟩
          case measure => simp [intOf]; omega
        · obtain rfl : z = 1 := by rw [HA.out]; simp
          clear HA
          go_wp2
          go_still_tail 17, (by kernel_rfl)
          change wpList _ _ _ _ _ wr.drew
          go_wp2
          go_roundw
          case rel => exact ⟨k + 1, by omega, by go_num, HST.out.drew, hSe.drew, by simp; omega⟩
          case measure => simp [intOf]; omega
    · go_wp2
      go_ret
      obtain rfl : k = 64 := by omega
      refine ⟨_, rfl, ?_, hS⟩
      rw [stage_full, ← HL.out] at hown
      exact hown
end Go.Proofs.Ytpokiglgjmcdoaa
