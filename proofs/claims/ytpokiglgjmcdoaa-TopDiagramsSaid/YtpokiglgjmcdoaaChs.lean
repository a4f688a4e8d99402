/-
  Diagrams in memory; dia.value.
-/
import Derived.Test.YtpokiglgjmcdoaaMade
import Derived.Test.YtpokiglgjmcdoaaDia
set_option linter.unusedVariables false
set_option linter.unusedSimpArgs false
namespace Go.Proofs.Ytpokiglgjmcdoaa
open Go.ChangeShapes Go.WideShapes Go.ChangeAt Go.RowKit Go.BigFrame Go.Shelf
open Um

/-- the slice holds the choices, three cells each -/
def ChsAt (S : Nat → Prop) (w : World) (v : Value) (cs : List Dia.Ch) : Prop :=
  ∃ (ao : Option Addr) (cap : Nat), v = .slice ao cs.length cap ∧ ∀ (j : Nat) (c : Dia.Ch), cs[j]? = some c → ∃ b o, ao = some ⟨b, o, none⟩ ∧ S b ∧ w.cell? ⟨b, o + j * 3, none⟩ = some (.int .i64 c.v) ∧ w.cell? ⟨b, o + j * 3 + 1, none⟩ = some (.int .i64 c.lo) ∧ w.cell? ⟨b, o + j * 3 + 2, none⟩ = some (.int .i64 c.hi)
theorem ChsAt.same {S : Nat → Prop} {w w' : World} {v : Value} {cs : List Dia.Ch} (h : ChsAt S w v cs) (hk : Same w w') : ChsAt S w' v cs := by
  obtain ⟨ao, cap, h1, h2⟩ := h
  refine ⟨ao, cap, h1, fun j c hc => ?_⟩
  obtain ⟨b, o, e, hb, h3, h4, h5⟩ := h2 j c hc
  exact ⟨b, o, e, hb, hk.cell_of trivial h3, hk.cell_of trivial h4, hk.cell_of trivial h5⟩

/-- a list of n truths as an assignment of the variables 1 .. n -/
def asgOf (a : List Bool) : Nat → Bool := fun u => a.getD (u - 1) false

set_option maxRecDepth 100000 in
theorem value_any (cs : List Dia.Ch) (root : Nat) (hwf : Dia.WF 6 cs) (hr : root < cs.length + 2) (hl : cs.length ≤ 4000) (a : List Bool) (ha : a.length = 6) (S : Nat → Prop) (w : World) (v u : Value)
    (hv : RowAt S w v (a.map Value.bool)) (hu : ChsAt S w u cs) :
    Calls Try.prog 128 #[.agg #[u, .int .i64 root], v] w fun e w' => e = .returned (.bool (Dia.val cs (asgOf a) root root)) ∧ Same w w' := by
  obtain ⟨ao, c, rfl, hcl, hcs⟩ := row_cases hv
  obtain ⟨uo, ucap, rfl, hch⟩ := hu
  have HC : Hid (∀ k, k < 6 → ∃ b o x, ao = some ⟨b, o, none⟩ ∧ a[k]? = some x ∧ w.cell? ⟨b, o + k, none⟩ = some (.bool x)) := by
    intro k hk
    obtain ⟨b, o, x, h1, h2, h3, _⟩ := hcs k (by simp [ha, hk])
    obtain ⟨y, hy⟩ : ∃ y, a[k]? = some y := ⟨_, List.getElem?_eq_getElem (by omega)⟩
    simp [hy] at h2
    subst h2
    exact ⟨b, o, y, h1, hy, h3⟩
  have hal : (a.map Value.bool).length = 6 := by simp [ha]
  rw [hal]
  have HCH := Lib.hid hch
  have HWF := Lib.hid hwf
  obtain ⟨n, hn⟩ : ∃ n, n = cs.length := ⟨_, rfl⟩
  rw [← hn] at hr hl
  rw [← hn]
  have HN := Lib.hid hn
  clear hcs hch hv hal hwf hn
  go_enter Try.func128, Try.ntmps128
  go_wp2
  go_loopw [5] (fun i wr => ∃ k : Nat, i = .int .i64 k ∧ k ≤ root ∧ Hid (Dia.val cs (asgOf a) k k = Dia.val cs (asgOf a) root root) ∧ Same w wr ∧ w.heap.size < wr.heap.size ∧
    wr.cell? ⟨w.heap.size, 0, none⟩ = some (.slice uo n ucap) ∧ wr.cell? ⟨w.heap.size, 1, none⟩ = some (.int .i64 root)) (fun i _ => (intOf i).toNat)
  case atStart => exact ⟨root, rfl, Nat.le_refl _, Lib.hid rfl, (Keeps.refl _ w).alloc _, by simp, by simp, by simp⟩
  case round =>
    obtain ⟨k, rfl, hk, hval, hS, hlt, hc0, hc1⟩ := hrel
    by_cases h2 : k < 2
    · have hv2 : Dia.val cs (asgOf a) root root = (k == 1) := by rw [← hval.out, Dia.val_small h2]
      have HV2 := Lib.hid hv2
      have hk1 : ((k : Int) == 1) = (k == 1) := by
        rw [Bool.eq_iff_iff]; simp; omega
      clear hv2 hval
      go_wp2
      go_ret
      exact ⟨ret_bool (by rw [HV2.out, ← hk1]), hS⟩
    · obtain ⟨m, rfl⟩ : ∃ m, k = m + 2 := ⟨k - 2, by omega⟩
      obtain ⟨ch, hch⟩ : ∃ ch, cs[m]? = some ch := ⟨_, List.getElem?_eq_getElem (by rw [← HN.out]; omega)⟩
      obtain ⟨q1, q2, q3, q4, _⟩ := HWF.out.at_ m ch hch
      obtain ⟨b, o, rfl, hb, e0, e1, e2⟩ := HCH.out m ch hch
      obtain ⟨b', o', x, rfl, hx, hxc⟩ := HC.out (ch.v - 1) (by omega)
      have e0' := hS.cell_of trivial e0
      have e1' := hS.cell_of trivial e1
      have e2' := hS.cell_of trivial e2
      have hx' := hS.cell_of trivial hxc
      have hstep : Dia.val cs (asgOf a) (m + 2) (m + 2) = Dia.val cs (asgOf a) (m + 1) (if x then ch.hi else ch.lo) := by
        rw [Dia.val_step (c := ch) (by omega) (by simpa using hch)]
        unfold asgOf
        rw [List.getD_eq_getElem?_getD, hx]; rfl
      have hfl : ∀ i, i < m + 2 → Dia.val cs (asgOf a) (m + 1) i = Dia.val cs (asgOf a) i i := fun i hi => Dia.val_fuel HWF.out (asgOf a) i _ (by rw [← HN.out]; omega) (by omega) i (Nat.le_refl _)
      rw [hstep] at hval
      obtain ⟨vv, hvv⟩ : ∃ vv, ch.v = vv + 1 := ⟨ch.v - 1, by omega⟩
      rw [hvv] at e0' hx' q2
      rw [Nat.add_sub_cancel] at hx'
      obtain ⟨lo, hlo⟩ : ∃ lo, lo = ch.lo := ⟨_, rfl⟩
      obtain ⟨hi, hhi⟩ : ∃ hi, hi = ch.hi := ⟨_, rfl⟩
      rw [← hlo] at q3 e1' hval
      rw [← hhi] at q4 e2' hval
      have hlb : b' < wr.heap.size := World.block_lt_of_cell? wr ⟨b', o' + vv, none⟩ hx'
      have HFL := Lib.hid hfl
      clear hstep hfl e0 e1 e2 hx hxc hlo hhi hvv hch q1
      cases x
      · have HV := Lib.hid hval
        clear hval
        go_wp2
        go_roundw
        case rel => exact ⟨lo, rfl, by omega, Lib.hid (by rw [← HFL.out lo (by omega)]; simpa using HV.out.out), hS.alloc _, by simp; omega, by simp [go_sem, hc0, hlt], by simp [go_sem, hc1, hlt]⟩
        case measure => simp [intOf]; omega
      · have HV := Lib.hid hval
        clear hval
        go_wp2
        go_roundw
        case rel => exact ⟨hi, rfl, by omega, Lib.hid (by rw [← HFL.out hi (by omega)]; simpa using HV.out.out), hS.alloc _, by simp; omega, by simp [go_sem, hc0, hlt], by simp [go_sem, hc1, hlt]⟩
        case measure => simp [intOf]; omega
end Go.Proofs.Ytpokiglgjmcdoaa
