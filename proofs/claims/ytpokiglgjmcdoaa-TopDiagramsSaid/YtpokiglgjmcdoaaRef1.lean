/-
  The references' functions on terms: what each returns, for every term that lies in memory; nothing that was there turns.
-/
import Derived.Test.YtpokiglgjmcdoaaProg
import Derived.Test.YtpokiglgjmcdoaaMem
import Derived.Lib.Hide
import Derived.LoopTactic
import Derived.Outline
set_option linter.unusedVariables false
set_option linter.unusedSimpArgs false
namespace Go.Proofs.Ytpokiglgjmcdoaa
open Go.ChangeShapes Go.WideShapes Go.ChangeAt Go.RowKit Go.BigFrame
open Um

theorem ret_int {k : IntKind} {a b : Int} (h : a = b) : Ending.returned (.int k a) = .returned (.int k b) := by rw [h]
theorem ret_bool {a b : Bool} (h : a = b) : Ending.returned (.bool a) = .returned (.bool b) := by rw [h]

theorem sizes_take_succ {ks : List Tr} {k : Nat} {x : Tr} (h : ks[k]? = some x) : Tr.size.sizes (ks.take (k + 1)) = Tr.size.sizes (ks.take k) + x.size := by
  induction ks generalizing k with
  | nil => simp at h
  | cons a xs ih =>
    cases k with
    | zero => simp only [List.getElem?_cons_zero, Option.some.injEq] at h; subst h; simp [Tr.size.sizes]
    | succ k => simp only [List.take_succ_cons, Tr.size.sizes]; rw [ih (by simpa using h)]; omega
theorem sizes_take_le (ks : List Tr) (k : Nat) : Tr.size.sizes (ks.take k) ≤ Tr.size.sizes ks := by
  induction ks generalizing k with
  | nil => simp [Tr.size.sizes]
  | cons a xs ih => cases k with
    | zero => simp [Tr.size.sizes]
    | succ k => simp only [List.take_succ_cons, Tr.size.sizes]; have := ih k; omega
theorem length_le_sizes (ks : List Tr) : ks.length ≤ Tr.size.sizes ks := by
  induction ks with
  | nil => simp [Tr.size.sizes]
  | cons a xs ih => simp only [Tr.size.sizes, List.length_cons]; have := a.size_pos; omega

theorem size_any (t : Tr) : ∀ (S : Nat → Prop) (w : World) (c0 c1 : Value), TrAt S w t c0 c1 → t.size ≤ 2097152 →
    Calls Try.prog 51 #[.agg #[c0, c1]] w fun e w' => e = .returned (.int .i64 t.size) ∧ Same w w' := by
  induction t using Tr.ind with
  | step t ih =>
    intro S w c0 c1 ht hsz
    obtain ⟨rfl, hi, a, n, cap, hn, rfl, hkids⟩ := trAt_iff.1 ht
    have hse := Tr.size_eq t
    have hls := length_le_sizes t.kids
    have hnb : n ≤ 2097152 := by omega
    have HN := Lib.hid hn; clear hn
    have HSE := Lib.hid hse; clear hse
    go_enter Try.func51, Try.ntmps51
    go_wp2
    go_loopw [3, 4] (fun s i wr => ∃ k : Nat, k ≤ n ∧ i = .int .i64 k ∧ s = .int .i64 ((1 + Tr.size.sizes (t.kids.take k) : Nat) : Int) ∧ Same w wr ∧ w.heap.size < wr.heap.size ∧
      wr.cell? ⟨w.heap.size, 0, none⟩ = some (.int .i64 t.head) ∧ wr.cell? ⟨w.heap.size, 1, none⟩ = some (.slice a n cap)) (fun _ i _ => n - (intOf i).toNat)
    case atStart =>
      refine ⟨0, Nat.zero_le _, rfl, rfl, (Keeps.refl _ w).alloc _, by simp, by simp, by simp⟩
    case round =>
      obtain ⟨k, hk, rfl, rfl, hS, hlt, hc0, hc1⟩ := hrel
      by_cases hkn : k < n
      · obtain ⟨x, hx⟩ : ∃ x, t.kids[k]? = some x := ⟨_, List.getElem?_eq_getElem (by rw [← HN.out]; exact hkn)⟩
        obtain ⟨b, o, x0, x1, rfl, hb, e0, e1, hxt⟩ := hkids k x hx
        have e0' := hS.cell_of (p := ⟨b, o + k * 2, none⟩) trivial e0
        have e1' := hS.cell_of (p := ⟨b, o + k * 2 + 1, none⟩) trivial e1
        have hxs := sizes_take_succ hx
        have hxl := sizes_take_le t.kids (k + 1)
        have hmem := List.mem_of_getElem? hx
        have hc := ih x hmem S wr x0 x1 (hxt.same hS) (by have := HSE.out; omega)
        have hb1 : 1 + Tr.size.sizes (t.kids.take k) + x.size ≤ 2097152 := by have := HSE.out; omega
        have HXS := Lib.hid hxs; clear hxs
        have HX := Lib.hid hx; clear hx
        clear hkids ih e0 e1 ht
        go_wp2_with (refine hc.mono ?_; rintro e w1 ⟨rfl, hS1⟩; have hc0' := hS1.cell_of trivial hc0; have hc1' := hS1.cell_of trivial hc1)
        go_roundw
        case rel =>
          refine ⟨k + 1, by omega, by go_num, ?_, hS.trans hS1, Nat.lt_of_lt_of_le hlt hS1.size, hc0', hc1'⟩
          rw [HXS.out]; simp; omega
        case measure => simp [intOf]; omega
      · go_wp2
        go_ret
        refine ⟨ret_int ?_, hS⟩
        have : k = n := by omega
        subst this
        rw [HSE.out, List.take_of_length_le (by rw [← HN.out]; exact Nat.le_refl _)]
end Go.Proofs.Ytpokiglgjmcdoaa
